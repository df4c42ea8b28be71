/-
  Regions whose order is drawn: operations that do not touch each other's places may come in any order. Conditions: none (generic in the program).
-/
import Derived.Test.YtnhgcpiljggmmaaGreatDoorCode
import Derived.OrdersIn
namespace Go.TQ
open Go.RowKit

def Opd.uses : Opd → List Nat
  | .tmp t => [t]
  | .cst _ => []
def SOp.uses : SOp → List Nat
  | .mov x | .box x | .boxr x | .load _ x | .faddr _ x | .not x | .conv _ x | .len _ x | .nilck x | .extr _ x | .isnil _ x | .clear _ _ x | .fld _ _ x => x.uses
  | .pick c x y => c.uses ++ x.uses ++ y.uses
  | .alloc _ => []
  | .store _ p x => p.uses ++ x.uses
  | .build _ ps => ps.flatMap fun p => p.2.2.uses
  | .bsl _ _ _ _ ps => ps.flatMap fun p => p.2.uses
  | .iaddr _ x i | .aaddr _ _ x i => x.uses ++ i.uses
  | .bin _ x y | .eq2 _ x y | .eqs _ _ x y | .eqb _ x y | .minmax _ x y | .sidx x y | .aidx _ _ _ _ x y | .lookup _ _ x y => x.uses ++ y.uses
  | .call _ xs => xs.flatMap Opd.uses
  | .callv f xs => f.uses ++ xs.flatMap Opd.uses
  | .app _ _ _ _ s x => s.uses ++ x.uses
  | .mkf _ caps | .mkb _ caps | .pur _ caps => caps.flatMap Opd.uses
  | .cpy _ _ x y => x.uses ++ y.uses
  | .mks _ _ _ _ l c => l.uses ++ c.uses
  | .slc _ x lo hi => x.uses ++ (match lo with | some l => l.uses | none => []) ++ (match hi with | some h => h.uses | none => [])
def SG.uses (g : SG) : List Nat := (match g.g with | some (t, _) => [t] | none => []) ++ g.op.uses
/-- may the operation look at, or turn, an object? -/
def SOp.touches : SOp → Bool
  | .mov _ | .boxr _ | .pick .. | .bin .. | .eq2 .. | .eqs .. | .eqb .. | .not _ | .conv .. | .extr .. | .mkf .. | .mkb .. | .build .. | .minmax .. | .sidx .. | .aidx .. | .lookup .. | .fld .. | .pur .. | .len true _ => false
  | _ => true

def ids1 : PV → List Nat
  | .own id _ | .ptr id _ _ | .eptr id _ _ _ _ | .view id _ _ _ _ => [id]
  | _ => []
/-- the objects that a callee sees -/
def rids (H : Nat → AObj) : Nat → PV → List Nat
  | 0, _ => []
  | n + 1, .own id _ => id :: (match (H id).c with | .row _ _ es => es.flatMap (fun e => e.flatMap (rids H n)) | _ => [])
  | n + 1, .ptr id _ _ => id :: (match (H id).c with | .box cs => cs.flatMap (rids H n) | _ => [])
  | n + 1, .agg cs | n + 1, .tup cs | n + 1, .clo _ cs | n + 1, .bnd _ cs => cs.flatMap (rids H n)
  | _ + 1, _ => []
def rdOf (nid : Nat) (S : St) : SOp → List Nat
  | .load _ p | .faddr _ p | .nilck p | .store _ p _ => ids1 (p.val S)
  | .iaddr _ x _ | .aaddr _ _ x _ | .len false x | .isnil _ x | .slc _ x _ _ | .clear _ _ x => ids1 (x.val S)
  | .box _ | .alloc _ | .bsl .. | .mks .. => [nid]
  | .app _ _ _ _ s x => nid :: (ids1 (s.val S) ++ ids1 (x.val S))
  | .cpy _ _ x y => ids1 (x.val S) ++ ids1 (y.val S)
  | .call _ xs => nid :: (xs.map (·.val S)).flatMap (rids S.H 9)
  | .callv f xs => nid :: (rids S.H 10 (f.val S) ++ (xs.map (·.val S)).flatMap (rids S.H 9))
  | _ => []

section
variable {Γ : Tab} {S S' : St} {nid : Nat}

theorem Opd.val_congr {x : Opd} (h : ∀ t ∈ x.uses, S'.env t = S.env t) : x.val S' = x.val S := by
  cases x with
  | tmp t => exact h t (by simp [Opd.uses])
  | cst v => rfl
theorem vals_congr {xs : List Opd} (h : ∀ t ∈ xs.flatMap Opd.uses, S'.env t = S.env t) : xs.map (·.val S') = xs.map (·.val S) :=
  List.map_congr_left fun x hx => Opd.val_congr fun t ht => h t (List.mem_flatMap.2 ⟨x, hx, ht⟩)

theorem fz_congr {H H' : Nat → AObj} {ex : Option Nat} : ∀ (n : Nat) (x : PV), (∀ id ∈ rids H n x, H' id = H id) → fz H' ex n x = fz H ex n x
  | 0, x, _ => by cases x <;> simp [fz]
  | n + 1, x, h => by
    have go : ∀ cs : List PV, (∀ id ∈ cs.flatMap (rids H n), H' id = H id) → cs.map (fz H' ex n) = cs.map (fz H ex n) := fun cs hc =>
      List.map_congr_left fun y hy => fz_congr n y fun id hid => hc id (List.mem_flatMap.2 ⟨y, hy, hid⟩)
    cases x with
    | own id ver =>
      have h0 : H' id = H id := h id (by simp [rids])
      simp only [fz, h0]
      split
      · rfl
      · cases hc : (H id).c with
        | row e k es =>
          simp only
          congr 1
          refine List.map_congr_left fun y hy => go y fun i hi => h i ?_
          simp only [rids, hc, List.mem_cons]
          exact .inr (List.mem_flatMap.2 ⟨y, hy, hi⟩)
        | dead => rfl
        | box cs => rfl
    | ptr id ver off =>
      have h0 : H' id = H id := h id (by simp [rids])
      simp only [fz, h0]
      split
      · rfl
      · cases hc : (H id).c with
        | box cs =>
          simp only
          rw [go cs fun i hi => h i (by simp only [rids, hc, List.mem_cons]; exact .inr hi)]
        | dead => rfl
        | row e k es => rfl
    | agg cs => simp only [fz]; rw [go cs (by simpa [rids] using h)]
    | tup cs => simp only [fz]; rw [go cs (by simpa [rids] using h)]
    | clo f cs => simp only [fz]; rw [go cs (by simpa [rids] using h)]
    | _ => simp [fz]
theorem fzs_congr {H H' : Nat → AObj} {ex : Option Nat} {xs : List PV} (h : ∀ id ∈ xs.flatMap (rids H 9), H' id = H id) : xs.map (fz H' ex 9) = xs.map (fz H ex 9) :=
  List.map_congr_left fun y hy => fz_congr 9 y fun id hid => h id (List.mem_flatMap.2 ⟨y, hy, hid⟩)

theorem callPV_congr {f : FuncId} {args : List PV} (hnid : S'.H nid = S.H nid) (h : ∀ id ∈ args.flatMap (rids S.H 9), S'.H id = S.H id) : callPV Γ nid S' f args = callPV Γ nid S f args := by
  have bor : ∀ (m : Model) (e k : Nat), callBor m e k S' args = callBor m e k S args := by
    intro m e k
    unfold callBor
    cases args with
    | nil => rfl
    | cons x rest =>
      cases x with
      | own id ver =>
        have h0 : S'.H id = S.H id := h id (by simp [rids])
        have h1 : rest.map (fz S'.H (some id) 9) = rest.map (fz S.H (some id) 9) := fzs_congr fun i hi => h i (by simp only [List.flatMap_cons, List.mem_append]; exact .inr hi)
        simp only [h0, h1]
      | _ => rfl
  have con : ∀ (m : Model) (e k : Nat), callCon m e k S' args = callCon m e k S args := by
    intro m e k
    unfold callCon
    cases args with
    | nil => rfl
    | cons x rest =>
      cases x with
      | own id ver =>
        have h0 : S'.H id = S.H id := h id (by simp [rids])
        have h1 : rest.map (fz S'.H (some id) 9) = rest.map (fz S.H (some id) 9) := fzs_congr fun i hi => h i (by simp only [List.flatMap_cons, List.mem_append]; exact .inr hi)
        simp only [h0, h1]
      | _ => rfl
  unfold callPV
  cases hm : Γ f with
  | none => rfl
  | some m =>
    simp only [bor, con, callFre, hnid, fzs_congr (ex := none) h]
    split
    · rfl
    · rfl
    · rfl
    split
    · rfl
    split
    · cases hp : args[m.pos]? with
      | none => rfl
      | some x =>
        cases x with
        | ptr id ver off =>
          cases off with
          | zero =>
            have hmem : PV.ptr id ver 0 ∈ args := List.mem_of_getElem? hp
            have h0 : S'.H id = S.H id := h id (List.mem_flatMap.2 ⟨_, hmem, by simp [rids]⟩)
            have h1 : (cutAt m.pos args).map (fz S'.H (some id) 9) = (cutAt m.pos args).map (fz S.H (some id) 9) := fzs_congr fun i hi => by
              obtain ⟨y, hy, hiy⟩ := List.mem_flatMap.1 hi
              refine h i (List.mem_flatMap.2 ⟨y, ?_, hiy⟩)
              unfold cutAt at hy
              rcases List.mem_append.1 hy with hy | hy
              · exact List.mem_of_mem_take hy
              · exact List.mem_of_mem_drop hy
            simp only [h0, h1]
          | succ k => rfl
        | _ => rfl
    · rfl

theorem fillPV_congr : ∀ (ps : List (Nat × Nat × Opd)) (cs : List PV), (∀ t ∈ ps.flatMap (fun p => p.2.2.uses), S'.env t = S.env t) → fillPV S' cs ps = fillPV S cs ps
  | [], cs, _ => rfl
  | (off, n, x) :: ps, cs, h => by
    have h0 : x.val S' = x.val S := Opd.val_congr fun t ht => h t (by simp [ht])
    simp only [fillPV, h0]
    split
    · exact fillPV_congr ps _ fun t ht => h t (by simp only [List.flatMap_cons, List.mem_append]; exact .inr ht)
    · rfl
theorem fillEs_congr (k : Nat) : ∀ (ps : List (Nat × Opd)) (es : List (List PV)), (∀ t ∈ ps.flatMap (fun p => p.2.uses), S'.env t = S.env t) → fillEs S' k es ps = fillEs S k es ps
  | [], es, _ => rfl
  | (i, x) :: ps, es, h => by
    have h0 : x.val S' = x.val S := Opd.val_congr fun t ht => h t (by simp [ht])
    simp only [fillEs, h0]
    split
    · exact fillEs_congr k ps _ fun t ht => h t (by simp only [List.flatMap_cons, List.mem_append]; exact .inr ht)
    · rfl

theorem elems_congr {x : PV} (h : ∀ id ∈ ids1 x, S'.H id = S.H id) : elems S' x = elems S x := by
  cases x with
  | own id ver => have h0 : S'.H id = S.H id := h id (by simp [ids1]); simp only [elems, h0]
  | view id ver k lo n => have h0 : S'.H id = S.H id := h id (by simp [ids1]); simp only [elems, h0]
  | _ => rfl
theorem optI_congr {y : Option Opd} {d : Int} (h : ∀ l, y = some l → l.val S' = l.val S) : optI S' y d = optI S y d := by
  cases y with
  | none => rfl
  | some l => simp only [optI, h l rfl]

theorem exec_congr {op : SOp} (he : ∀ t ∈ op.uses, S'.env t = S.env t) (hH : ∀ id ∈ rdOf nid S op, S'.H id = S.H id) : exec Γ nid S' op = exec Γ nid S op := by
  cases op with
  | mov x => simp only [exec, Opd.val_congr (x := x) he]
  | pick c x y =>
    have h1 : c.val S' = c.val S := Opd.val_congr fun t ht => he t (by simp [SOp.uses, ht])
    have h2 : x.val S' = x.val S := Opd.val_congr fun t ht => he t (by simp [SOp.uses, ht])
    have h3 : y.val S' = y.val S := Opd.val_congr fun t ht => he t (by simp [SOp.uses, ht])
    simp only [exec, h1, h2, h3]
  | box x =>
    have h1 : x.val S' = x.val S := Opd.val_congr he
    have h2 : S'.H nid = S.H nid := hH nid (by simp [rdOf])
    simp only [exec, h1, h2]
  | boxr x =>
    have h1 : x.val S' = x.val S := Opd.val_congr he
    simp only [exec, h1]
  | alloc z =>
    have h2 : S'.H nid = S.H nid := hH nid (by simp [rdOf])
    simp only [exec, h2]
  | load n p =>
    have h1 : p.val S' = p.val S := Opd.val_congr he
    simp only [exec, h1]
    simp only [rdOf] at hH
    cases hp : p.val S with
    | ptr id ver off => rw [hp] at hH; have h2 : S'.H id = S.H id := hH id (by simp [ids1]); simp only [h2]
    | eptr id ver k i off => rw [hp] at hH; have h2 : S'.H id = S.H id := hH id (by simp [ids1]); simp only [h2]
    | _ => rfl
  | store n p x =>
    have h1 : p.val S' = p.val S := Opd.val_congr fun t ht => he t (by simp [SOp.uses, ht])
    have h2 : x.val S' = x.val S := Opd.val_congr fun t ht => he t (by simp [SOp.uses, ht])
    simp only [exec, h1, h2]
    simp only [rdOf] at hH
    cases hp : p.val S with
    | ptr id ver off => rw [hp] at hH; have h3 : S'.H id = S.H id := hH id (by simp [ids1]); simp only [h3]
    | eptr id ver k i off => rw [hp] at hH; have h3 : S'.H id = S.H id := hH id (by simp [ids1]); simp only [h3]
    | _ => rfl
  | build z ps => simp only [exec, fillPV_congr ps z he]
  | bsl m e k z ps =>
    have h2 : S'.H nid = S.H nid := hH nid (by simp [rdOf])
    simp only [exec, fillEs_congr k ps z he, h2]
  | faddr off p =>
    have h1 : p.val S' = p.val S := Opd.val_congr he
    simp only [exec, h1]
    simp only [rdOf] at hH
    cases hp : p.val S with
    | ptr id ver off => rw [hp] at hH; have h2 : S'.H id = S.H id := hH id (by simp [ids1]); simp only [h2]
    | eptr id ver k i off => rw [hp] at hH; have h2 : S'.H id = S.H id := hH id (by simp [ids1]); simp only [h2]
    | _ => rfl
  | iaddr k x i =>
    have h1 : x.val S' = x.val S := Opd.val_congr fun t ht => he t (by simp [SOp.uses, ht])
    have h2 : i.val S' = i.val S := Opd.val_congr fun t ht => he t (by simp [SOp.uses, ht])
    simp only [exec, h1, h2]
    simp only [rdOf] at hH
    cases hp : x.val S with
    | own id ver => rw [hp] at hH; have h3 : S'.H id = S.H id := hH id (by simp [ids1]); simp only [h3]
    | view id ver k lo n => rw [hp] at hH; have h3 : S'.H id = S.H id := hH id (by simp [ids1]); simp only [h3]
    | _ => rfl
  | aaddr k len x i =>
    have h1 : x.val S' = x.val S := Opd.val_congr fun t ht => he t (by simp [SOp.uses, ht])
    have h2 : i.val S' = i.val S := Opd.val_congr fun t ht => he t (by simp [SOp.uses, ht])
    simp only [exec, h1, h2]
    simp only [rdOf] at hH
    cases hp : x.val S with
    | ptr id ver off => rw [hp] at hH; have h3 : S'.H id = S.H id := hH id (by simp [ids1]); simp only [h3]
    | _ => rfl
  | bin op x y =>
    have h1 : x.val S' = x.val S := Opd.val_congr fun t ht => he t (by simp [SOp.uses, ht])
    have h2 : y.val S' = y.val S := Opd.val_congr fun t ht => he t (by simp [SOp.uses, ht])
    simp only [exec, h1, h2]
  | eq2 n x y =>
    have h1 : x.val S' = x.val S := Opd.val_congr fun t ht => he t (by simp [SOp.uses, ht])
    have h2 : y.val S' = y.val S := Opd.val_congr fun t ht => he t (by simp [SOp.uses, ht])
    simp only [exec, h1, h2]
  | eqb n x y =>
    have h1 : x.val S' = x.val S := Opd.val_congr fun t ht => he t (by simp [SOp.uses, ht])
    have h2 : y.val S' = y.val S := Opd.val_congr fun t ht => he t (by simp [SOp.uses, ht])
    simp only [exec, h1, h2]
  | eqs n ks x y =>
    have h1 : x.val S' = x.val S := Opd.val_congr fun t ht => he t (by simp [SOp.uses, ht])
    have h2 : y.val S' = y.val S := Opd.val_congr fun t ht => he t (by simp [SOp.uses, ht])
    simp only [exec, h1, h2]
  | aidx e n len k x y =>
    have h1 : x.val S' = x.val S := Opd.val_congr fun t ht => he t (by simp [SOp.uses, ht])
    have h2 : y.val S' = y.val S := Opd.val_congr fun t ht => he t (by simp [SOp.uses, ht])
    simp only [exec, h1, h2]
  | sidx x y =>
    have h1 : x.val S' = x.val S := Opd.val_congr fun t ht => he t (by simp [SOp.uses, ht])
    have h2 : y.val S' = y.val S := Opd.val_congr fun t ht => he t (by simp [SOp.uses, ht])
    simp only [exec, h1, h2]
  | lookup ok z x y =>
    have h1 : x.val S' = x.val S := Opd.val_congr fun t ht => he t (by simp [SOp.uses, ht])
    have h2 : y.val S' = y.val S := Opd.val_congr fun t ht => he t (by simp [SOp.uses, ht])
    simp only [exec, h1, h2]
  | not x => simp only [exec, Opd.val_congr (x := x) he]
  | conv k x => simp only [exec, Opd.val_congr (x := x) he]
  | fld n off x => simp only [exec, Opd.val_congr (x := x) he]
  | pur q xs => simp only [exec, vals_congr he]
  | cpy e k x y =>
    have h1 : x.val S' = x.val S := Opd.val_congr fun t ht => he t (by simp [SOp.uses, ht])
    have h2 : y.val S' = y.val S := Opd.val_congr fun t ht => he t (by simp [SOp.uses, ht])
    simp only [exec, h1, h2]
    rw [elems_congr (fun id hid => hH id (by simp [rdOf, hid]))]
    cases hx : x.val S with
    | own id ver => have h0 : S'.H id = S.H id := hH id (by simp [rdOf, hx, ids1]); simp only [h0]
    | view id ver k lo n => have h0 : S'.H id = S.H id := hH id (by simp [rdOf, hx, ids1]); simp only [h0]
    | _ => rfl
  | len b x =>
    have h1 : x.val S' = x.val S := Opd.val_congr he
    cases b with
    | true => simp only [exec, h1]
    | false => simp only [exec, h1]; rw [elems_congr (by simpa [rdOf] using hH)]
  | call f xs => simp only [exec, vals_congr he]; exact callPV_congr (hH nid (by simp [rdOf])) fun id hid => hH id (by simp only [rdOf, List.mem_cons]; exact .inr hid)
  | callv fv xs =>
    have h1 : fv.val S' = fv.val S := Opd.val_congr fun t ht => he t (by simp [SOp.uses, ht])
    have h2 : xs.map (·.val S') = xs.map (·.val S) := vals_congr fun t ht => he t (by simp only [SOp.uses, List.mem_append]; exact .inr ht)
    simp only [exec, h1, h2]
    simp only [rdOf] at hH
    cases hp : fv.val S with
    | clo f caps =>
      rw [hp] at hH
      refine callPV_congr (hH nid (by simp)) fun id hid => hH id ?_
      simp only [List.flatMap_append, List.mem_append, List.mem_cons] at hid ⊢
      right
      rcases hid with hid | hid
      · exact .inr hid
      · exact .inl (by simpa [rids] using hid)
    | bnd f first =>
      rw [hp] at hH
      refine callPV_congr (hH nid (by simp)) fun id hid => hH id ?_
      simp only [List.flatMap_append, List.mem_append, List.mem_cons] at hid ⊢
      right
      rcases hid with hid | hid
      · exact .inl (by simpa [rids] using hid)
      · exact .inr hid
    | _ => rfl
  | app z e k b s x =>
    have h1 : s.val S' = s.val S := Opd.val_congr fun t ht => he t (by simp [SOp.uses, ht])
    have h2 : x.val S' = x.val S := Opd.val_congr fun t ht => he t (by simp [SOp.uses, ht])
    have h3 : S'.H nid = S.H nid := hH nid (by simp [rdOf])
    have h4 : elems S' (x.val S) = elems S (x.val S) := elems_congr fun id hid => hH id (by simp [rdOf, hid])
    simp only [exec, h1, h2, h3, h4]
    cases hp : s.val S with
    | own id ver => have h5 : S'.H id = S.H id := hH id (by simp [rdOf, hp, ids1]); simp only [h5]
    | _ => rfl
  | nilck x =>
    have h1 : x.val S' = x.val S := Opd.val_congr he
    simp only [exec, h1]
    simp only [rdOf] at hH
    cases hp : x.val S with
    | ptr id ver off => rw [hp] at hH; have h2 : S'.H id = S.H id := hH id (by simp [ids1]); simp only [h2]
    | _ => rfl
  | extr i x => simp only [exec, Opd.val_congr (x := x) he]
  | mkf f caps => simp only [exec, vals_congr he]
  | mkb f caps => simp only [exec, vals_congr he]
  | mks e k b z l c =>
    have h1 : l.val S' = l.val S := Opd.val_congr fun t ht => he t (by simp [SOp.uses, ht])
    have h2 : c.val S' = c.val S := Opd.val_congr fun t ht => he t (by simp [SOp.uses, ht])
    have h3 : S'.H nid = S.H nid := hH nid (by simp [rdOf])
    simp only [exec, h1, h2, h3]
  | slc k x lo hi =>
    have h1 : x.val S' = x.val S := Opd.val_congr fun t ht => he t (by simp [SOp.uses, ht])
    have h2 : ∀ l, lo = some l → l.val S' = l.val S := fun l hl => Opd.val_congr fun t ht => he t (by simp [SOp.uses, hl, ht])
    have h3 : ∀ l, hi = some l → l.val S' = l.val S := fun l hl => Opd.val_congr fun t ht => he t (by simp [SOp.uses, hl, ht])
    simp only [rdOf] at hH
    simp only [exec, h1]
    have h4 : ∀ d, optI S' lo d = optI S lo d := fun d => optI_congr h2
    have h5 : ∀ d, optI S' hi d = optI S hi d := fun d => optI_congr h3
    cases hp : x.val S with
    | own id ver => rw [hp] at hH; have h6 : S'.H id = S.H id := hH id (by simp [ids1]); simp only [h4, h5, h6]
    | view id ver k lo n => rw [hp] at hH; have h6 : S'.H id = S.H id := hH id (by simp [ids1]); simp only [h4, h5, h6]
    | sl es => cases lo <;> cases hi <;> simp_all
    | _ => rfl
  | clear k z x =>
    have h1 : x.val S' = x.val S := Opd.val_congr he
    simp only [rdOf] at hH
    simp only [exec, h1]
    cases hp : x.val S with
    | view id ver k lo n => rw [hp] at hH; have h6 : S'.H id = S.H id := hH id (by simp [ids1]); simp only [h6]
    | _ => rfl
  | minmax m x y =>
    have h1 : x.val S' = x.val S := Opd.val_congr fun t ht => he t (by simp [SOp.uses, ht])
    have h2 : y.val S' = y.val S := Opd.val_congr fun t ht => he t (by simp [SOp.uses, ht])
    simp only [exec, h1, h2]
  | isnil n x =>
    have h1 : x.val S' = x.val S := Opd.val_congr he
    have h2 : elems S' (x.val S) = elems S (x.val S) := elems_congr (by simpa [rdOf] using hH)
    simp only [exec, h1]
    cases hx : x.val S <;> first | rfl | (rw [hx] at h2; simp only [h2])

theorem flatMap_congr' {α β : Type} {f g : α → List β} : ∀ {l : List α}, (∀ x ∈ l, f x = g x) → l.flatMap f = l.flatMap g
  | [], _ => rfl
  | x :: l, h => by simp only [List.flatMap_cons]; rw [h x (by simp), flatMap_congr' fun y hy => h y (by simp [hy])]
theorem rids_congr {H H' : Nat → AObj} : ∀ (n : Nat) (x : PV), (∀ id ∈ rids H n x, H' id = H id) → rids H' n x = rids H n x
  | 0, x, _ => by simp [rids]
  | n + 1, x, h => by
    have go : ∀ cs : List PV, (∀ id ∈ cs.flatMap (rids H n), H' id = H id) → cs.flatMap (rids H' n) = cs.flatMap (rids H n) := fun cs hc =>
      flatMap_congr' fun y hy => rids_congr n y fun id hid => hc id (List.mem_flatMap.2 ⟨y, hy, hid⟩)
    cases x with
    | own id ver =>
      have h0 : H' id = H id := h id (by simp [rids])
      simp only [rids, h0]
      cases hc : (H id).c with
      | row e k es =>
        simp only
        congr 1
        refine flatMap_congr' fun y hy => go y fun i hi => h i ?_
        simp only [rids, hc, List.mem_cons]
        exact .inr (List.mem_flatMap.2 ⟨y, hy, hi⟩)
      | dead => rfl
      | box cs => rfl
    | ptr id ver off =>
      have h0 : H' id = H id := h id (by simp [rids])
      simp only [rids, h0]
      cases hc : (H id).c with
      | box cs =>
        simp only
        rw [go cs fun i hi => h i (by simp only [rids, hc, List.mem_cons]; exact .inr hi)]
      | dead => rfl
      | row e k es => rfl
    | agg cs => simp only [rids]; exact go cs (by simpa [rids] using h)
    | tup cs => simp only [rids]; exact go cs (by simpa [rids] using h)
    | clo f cs => simp only [rids]; exact go cs (by simpa [rids] using h)
    | bnd f cs => simp only [rids]; exact go cs (by simpa [rids] using h)
    | _ => simp [rids]
theorem ridsL_congr {H H' : Nat → AObj} {n : Nat} {xs : List PV} (h : ∀ id ∈ xs.flatMap (rids H n), H' id = H id) : xs.flatMap (rids H' n) = xs.flatMap (rids H n) :=
  flatMap_congr' fun y hy => rids_congr n y fun id hid => h id (List.mem_flatMap.2 ⟨y, hy, hid⟩)

theorem rdOf_congr {op : SOp} (he : ∀ t ∈ op.uses, S'.env t = S.env t) (hH : ∀ id ∈ rdOf nid S op, S'.H id = S.H id) : rdOf nid S' op = rdOf nid S op := by
  cases op with
  | load n p => simp only [rdOf, Opd.val_congr (x := p) he]
  | faddr off p => simp only [rdOf, Opd.val_congr (x := p) he]
  | nilck p => simp only [rdOf, Opd.val_congr (x := p) he]
  | store n p x =>
    have h1 : p.val S' = p.val S := Opd.val_congr fun t ht => he t (by simp [SOp.uses, ht])
    simp only [rdOf, h1]
  | iaddr k x i =>
    have h1 : x.val S' = x.val S := Opd.val_congr fun t ht => he t (by simp [SOp.uses, ht])
    simp only [rdOf, h1]
  | aaddr k l x i =>
    have h1 : x.val S' = x.val S := Opd.val_congr fun t ht => he t (by simp [SOp.uses, ht])
    simp only [rdOf, h1]
  | isnil n x => simp only [rdOf, Opd.val_congr (x := x) he]
  | clear k z x => simp only [rdOf, Opd.val_congr (x := x) he]
  | cpy e k x y => simp only [rdOf, Opd.val_congr (x := x) fun t ht => he t (by simp [SOp.uses, ht]), Opd.val_congr (x := y) fun t ht => he t (by simp [SOp.uses, ht])]
  | slc k x lo hi =>
    have h1 : x.val S' = x.val S := Opd.val_congr fun t ht => he t (by simp [SOp.uses, ht])
    simp only [rdOf, h1]
  | len b x =>
    cases b with
    | true => rfl
    | false => simp only [rdOf, Opd.val_congr (x := x) he]
  | app z e k b s x =>
    have h1 : s.val S' = s.val S := Opd.val_congr fun t ht => he t (by simp [SOp.uses, ht])
    have h2 : x.val S' = x.val S := Opd.val_congr fun t ht => he t (by simp [SOp.uses, ht])
    simp only [rdOf, h1, h2]
  | call f xs =>
    simp only [rdOf, vals_congr he]
    rw [ridsL_congr fun id hid => hH id (by simp only [rdOf, List.mem_cons]; exact .inr hid)]
  | callv fv xs =>
    have h1 : fv.val S' = fv.val S := Opd.val_congr fun t ht => he t (by simp [SOp.uses, ht])
    have h2 : xs.map (·.val S') = xs.map (·.val S) := vals_congr fun t ht => he t (by simp only [SOp.uses, List.mem_append]; exact .inr ht)
    simp only [rdOf, List.mem_cons, List.mem_append] at hH
    simp only [rdOf, h1, h2]
    rw [rids_congr 10 _ fun id hid => hH id (.inr (.inl hid)), ridsL_congr fun id hid => hH id (.inr (.inr hid))]
  | _ => rfl

/-! ### one operation's effect -/
def eff (Γ : Tab) (nid : Nat) (S : St) (g : SG) : Option (PV × Option (Nat × AObj)) :=
  match g.wanted S with
  | some true => exec Γ nid S g.op
  | some false => some (.undef, none)
  | none => none
def grd (nid : Nat) (S : St) (g : SG) : List Nat :=
  match g.wanted S with
  | some true => rdOf nid S g.op
  | _ => []
theorem stp_eff (g : SG) : stp Γ nid S g = (eff Γ nid S g).map fun p => S.app g.d p.1 p.2 := by
  unfold stp eff
  cases g.wanted S with
  | none => rfl
  | some b => cases b <;> rfl

theorem wanted_congr {g : SG} (he : ∀ t ∈ g.uses, S'.env t = S.env t) : g.wanted S' = g.wanted S := by
  unfold SG.wanted
  cases hg : g.g with
  | none => rfl
  | some p =>
    obtain ⟨t, want⟩ := p
    simp only
    rw [he t (by simp [SG.uses, hg])]
theorem eff_congr {g : SG} (he : ∀ t ∈ g.uses, S'.env t = S.env t) (hH : ∀ id ∈ grd nid S g, S'.H id = S.H id) : eff Γ nid S' g = eff Γ nid S g := by
  unfold eff
  rw [wanted_congr he]
  unfold grd at hH
  cases hw : g.wanted S with
  | none => rfl
  | some b =>
    cases b with
    | false => rfl
    | true =>
      rw [hw] at hH
      exact exec_congr (fun t ht => he t (by simp [SG.uses, ht])) hH
theorem grd_congr {g : SG} (he : ∀ t ∈ g.uses, S'.env t = S.env t) (hH : ∀ id ∈ grd nid S g, S'.H id = S.H id) : grd nid S' g = grd nid S g := by
  unfold grd
  rw [wanted_congr he]
  unfold grd at hH
  cases hw : g.wanted S with
  | none => rfl
  | some b =>
    cases b with
    | false => rfl
    | true =>
      rw [hw] at hH
      exact rdOf_congr (fun t ht => he t (by simp [SG.uses, ht])) hH

/-- an operation's footprint: where it writes, its temporaries, what it reads and turns of the objects -/
structure Foot where
  d : Option Nat
  us : List Nat
  rd : List Nat
  wr : Option Nat
/-- two operations that do not touch each other's places -/
structure Indep (p q : Foot) : Prop where
  d1 : ∀ t, p.d = some t → t ∉ q.us
  d2 : ∀ t, q.d = some t → t ∉ p.us
  dd : ∀ t, p.d = some t → q.d ≠ some t
  w1 : ∀ i, p.wr = some i → i ∉ q.rd
  w2 : ∀ i, q.wr = some i → i ∉ p.rd
  ww : ∀ i, p.wr = some i → q.wr ≠ some i

def fpOf (nid : Nat) (S : St) (g : SG) (p : PV × Option (Nat × AObj)) : Foot := ⟨g.d, g.uses, grd nid S g, p.2.map (·.1)⟩

/-- the operations in order, each with its number; base: the first new object's number -/
def runF (Γs : Nat → Tab) (base : Nat) : List (Nat × SG) → St → Option (St × List Foot)
  | [], S => some (S, [])
  | (i, g) :: l, S =>
    match eff (Γs i) (base + i) S g with
    | none => none
    | some p =>
      match runF Γs base l (S.app g.d p.1 p.2) with
      | none => none
      | some (S', fs) => some (S', fpOf (base + i) S g p :: fs)

theorem St.app_env_ne (d : Option Nat) (x : PV) (wr : Option (Nat × AObj)) {t : Nat} (h : d ≠ some t) : (S.app d x wr).env t = S.env t := by
  cases d with
  | none => rfl
  | some d => exact upd_ne _ _ (fun e => h (by rw [e]))
theorem St.app_H_ne (d : Option Nat) (x : PV) (wr : Option (Nat × AObj)) {i : Nat} (h : wr.map (·.1) ≠ some i) : (S.app d x wr).H i = S.H i := by
  cases wr with
  | none => rfl
  | some p => exact upd_ne _ _ (fun e => h (by rw [e]; rfl))
theorem upd_comm {α : Type} (f : Nat → α) {i j : Nat} (x y : α) (h : i ≠ j) : upd (upd f i x) j y = upd (upd f j y) i x := by
  funext k
  simp only [upd]
  split <;> split <;> first | rfl | omega
theorem St.app_comm (d e : Option Nat) (x y : PV) (p q : Option (Nat × AObj)) (hd : ∀ t, d = some t → e ≠ some t) (hw : ∀ i, p.map (·.1) = some i → q.map (·.1) ≠ some i) : (S.app d x p).app e y q = (S.app e y q).app d x p := by
  unfold St.app
  congr 1
  · cases d with
    | none => rfl
    | some d =>
      cases e with
      | none => rfl
      | some e => exact upd_comm _ _ _ (fun h => hd d rfl (by rw [h]))
  · cases p with
    | none => rfl
    | some p =>
      cases q with
      | none => rfl
      | some q => exact upd_comm _ _ _ (fun h => hw p.1 rfl (by rw [h]; rfl))

/-- an operation that does not touch those before it may come first -/
theorem runF_extract {Γs : Nat → Tab} {base : Nat} : ∀ (l1 : List (Nat × SG)) (i : Nat) (g : SG) (l2 : List (Nat × SG)) (S S' : St) (fs : List Foot), runF Γs base (l1 ++ (i, g) :: l2) S = some (S', fs) →
    (∀ (k : Nat) (fk fi : Foot), k < l1.length → fs[k]? = some fk → fs[l1.length]? = some fi → Indep fk fi) →
    ∃ p, eff (Γs i) (base + i) S g = some p ∧ (∀ fi, fs[l1.length]? = some fi → fi = fpOf (base + i) S g p) ∧ runF Γs base (l1 ++ l2) (S.app g.d p.1 p.2) = some (S', fs.eraseIdx l1.length)
  | [], i, g, l2, S, S', fs, h, _ => by
    simp only [List.nil_append, runF] at h
    split at h
    · cases h
    · rename_i p hp
      split at h
      · cases h
      · rename_i S1 fs1 h1
        injection h with h
        injection h with h2 h3
        subst h2 h3
        exact ⟨p, hp, fun fi hfi => by simp at hfi; exact hfi.symm, by simpa using h1⟩
  | (x, gx) :: l1, i, g, l2, S, S', fs, h, hi => by
    simp only [List.cons_append, runF] at h
    split at h
    · cases h
    · rename_i px hpx
      split at h
      · cases h
      · rename_i S1 fs1 h1
        injection h with h
        injection h with h2 h3
        subst h2 h3
        obtain ⟨p, hp, hfp, hrest⟩ := runF_extract l1 i g l2 (S.app gx.d px.1 px.2) S1 fs1 h1 (fun k fk fi hk hfk hfi => hi (k + 1) fk fi (by simp; omega) (by simpa using hfk) (by simpa using hfi))
        -- the footprint of the one that is taken
        have hlen : l1.length < fs1.length := by
          have : ∀ (l : List (Nat × SG)) (S : St) (S' : St) (fs : List Foot), runF Γs base l S = some (S', fs) → fs.length = l.length := by
            intro l
            induction l with
            | nil => intro S S' fs h; simp only [runF, Option.some.injEq, Prod.mk.injEq] at h; rw [← h.2]; rfl
            | cons q l ih =>
              intro S S' fs h
              obtain ⟨j, gj⟩ := q
              simp only [runF] at h
              split at h
              · cases h
              · split at h
                · cases h
                · rename_i S2 fs2 h2
                  injection h with h
                  injection h with h3 h4
                  subst h4
                  simp [ih _ _ _ h2]
          rw [this _ _ _ _ h1]
          simp
        have hfi := hfp _ (List.getElem?_eq_getElem hlen)
        have hind := hi 0 (fpOf (base + x) S gx px) _ (by simp) (by simp) (show (fpOf (base + x) S gx px :: fs1)[l1.length + 1]? = some fs1[l1.length] by rw [List.getElem?_cons_succ]; exact List.getElem?_eq_getElem hlen)
        rw [hfi] at hind
        -- seen from before x
        have he : ∀ t ∈ g.uses, S.env t = (S.app gx.d px.1 px.2).env t := fun t ht => (St.app_env_ne _ _ _ (fun e => hind.d1 t e ht)).symm
        have hH : ∀ id ∈ grd (base + i) (S.app gx.d px.1 px.2) g, S.H id = (S.app gx.d px.1 px.2).H id := fun id hid => (St.app_H_ne _ _ _ (fun e => hind.w1 id e hid)).symm
        have hp' : eff (Γs i) (base + i) S g = some p := (eff_congr he hH).trans hp
        have hg' := grd_congr (nid := base + i) he hH
        -- x behind the one that is taken
        have hex : ∀ t ∈ gx.uses, (S.app g.d p.1 p.2).env t = S.env t := fun t ht => St.app_env_ne _ _ _ (fun e => hind.d2 t e ht)
        have hHx : ∀ id ∈ grd (base + x) S gx, (S.app g.d p.1 p.2).H id = S.H id := fun id hid => St.app_H_ne _ _ _ (fun e => hind.w2 id e hid)
        have hpx' : eff (Γs x) (base + x) (S.app g.d p.1 p.2) gx = some px := (eff_congr hex hHx).trans hpx
        have hgx' := grd_congr (nid := base + x) hex hHx
        have hcomm : (S.app g.d p.1 p.2).app gx.d px.1 px.2 = (S.app gx.d px.1 px.2).app g.d p.1 p.2 := (St.app_comm _ _ _ _ _ _ hind.dd hind.ww).symm
        refine ⟨p, hp', fun fi hf => ?_, ?_⟩
        · have : fi = fs1[l1.length] := by
            have h5 : (fpOf (base + x) S gx px :: fs1)[l1.length + 1]? = some fi := by simpa using hf
            simp only [List.getElem?_cons_succ, List.getElem?_eq_getElem hlen, Option.some.injEq] at h5
            exact h5.symm
          rw [this, hfi]
          simp only [fpOf, hg']
        · simp only [List.cons_append, runF, hpx', hcomm, hrest, List.length_cons, List.eraseIdx_cons_succ]
          congr 2
          simp only [fpOf, hgx']
end

/-! ### the schedule -/
section
variable {P : Program} {E : En} {Γ : Tab} {hs : List Nat}

def dmask (o : Oper) : Nat := o.after.toList.foldl (fun m e => if Region.binds .any e then m ||| (1 <<< e.on) else m) 0
def amStep (ds : List Nat) (M : Nat) : Nat := ds.zipIdx.foldl (fun m p => if M.testBit p.2 then m ||| p.1 else m) M
def amIter (ds : List Nat) : Nat → Nat → Nat
  | 0, M => M
  | n + 1, M => amIter ds n (amStep ds M)

theorem testBit_one (i j : Nat) : (1 <<< i).testBit j = decide (j = i) := by
  rw [Nat.one_shiftLeft, Nat.testBit_two_pow]
  exact decide_eq_decide.2 ⟨fun h => h.symm, fun h => h.symm⟩

theorem dmask_ok {o : Oper} {R : Nat → Prop} (h : ∀ e ∈ o.after, Region.binds .any e = true → R e.on) : ∀ j, (dmask o).testBit j = true → R j := by
  have : ∀ (l : List Edge) (m : Nat), (∀ e ∈ l, Region.binds .any e = true → R e.on) → (∀ j, m.testBit j = true → R j) → ∀ j, (l.foldl (fun m e => if Region.binds .any e then m ||| (1 <<< e.on) else m) m).testBit j = true → R j := by
    intro l
    induction l with
    | nil => intro m _ hm j hj; exact hm j hj
    | cons e l ih =>
      intro m hl hm j hj
      refine ih _ (fun e' he' => hl e' (by simp [he'])) ?_ j hj
      intro k hk
      simp only at hk
      split at hk
      · rename_i hb
        rw [Nat.testBit_or, Bool.or_eq_true, testBit_one, decide_eq_true_eq] at hk
        rcases hk with hk | hk
        · exact hm k hk
        · rw [hk]; exact hl e (by simp) hb
      · exact hm k hk
  exact this o.after.toList 0 (fun e he => h e (by simpa using he)) (fun j hj => by simp at hj)

theorem amStep_ok {ds : List Nat} {R : Nat → Prop} (hd : ∀ i d, ds[i]? = some d → R i → ∀ j, d.testBit j = true → R j) {M : Nat} (hM : ∀ j, M.testBit j = true → R j) : ∀ j, (amStep ds M).testBit j = true → R j := by
  have : ∀ (l : List (Nat × Nat)) (m : Nat), (∀ p ∈ l, R p.2 → ∀ j, p.1.testBit j = true → R j) → (∀ j, m.testBit j = true → R j) → ∀ j, (l.foldl (fun m p => if M.testBit p.2 then m ||| p.1 else m) m).testBit j = true → R j := by
    intro l
    induction l with
    | nil => intro m _ hm j hj; exact hm j hj
    | cons p l ih =>
      intro m hl hm j hj
      refine ih _ (fun q hq => hl q (by simp [hq])) ?_ j hj
      intro k hk
      simp only at hk
      split at hk
      · rename_i hb
        rw [Nat.testBit_or, Bool.or_eq_true] at hk
        rcases hk with hk | hk
        · exact hm k hk
        · exact hl p (by simp) (hM _ hb) k hk
      · exact hm k hk
  refine this ds.zipIdx M (fun p hp hR j hj => ?_) hM
  obtain ⟨d, i⟩ := p
  rw [List.mem_zipIdx_iff_getElem?] at hp
  exact hd i d hp hR j hj
theorem amIter_ok {ds : List Nat} {R : Nat → Prop} (hd : ∀ i d, ds[i]? = some d → R i → ∀ j, d.testBit j = true → R j) : ∀ (n M : Nat), (∀ j, M.testBit j = true → R j) → ∀ j, (amIter ds n M).testBit j = true → R j
  | 0, _, hM => hM
  | n + 1, _, hM => amIter_ok hd n _ (amStep_ok hd hM)

/-- the pairs that no chain of edges orders -/
def unPairs (ops : List Oper) : List (Nat × Nat) :=
  let ds := ops.map dmask
  (List.range ops.length).flatMap fun j =>
    let M := amIter ds ops.length (ds.getD j 0)
    (List.range j).filterMap fun i => if M.testBit i then none else some (i, j)

def fpApart (g h : SG) : Bool :=
  (match g.d with | some t => !h.uses.contains t && h.d != some t | none => true) && (match h.d with | some t => !g.uses.contains t | none => true)
def indepB (p q : Foot) : Bool :=
  (match p.wr with | some i => !q.rd.contains i && q.wr != some i | none => true) && (match q.wr with | some i => !p.rd.contains i | none => true)

/-- the check of a region that draws; the pairs that are left to be looked at in each state -/
def cdraw (ops : List Oper) (gs : List SG) : Option (List (Nat × Nat)) :=
  let un := unPairs ops
  if un.all (fun p => match gs[p.1]?, gs[p.2]? with | some g, some h => fpApart g h | _, _ => false) && ops.zipIdx.all (fun p => p.1.after.toList.all fun e => !Region.binds .any e || decide (e.on < p.2)) then
    some (un.filter fun p => match gs[p.1]?, gs[p.2]? with | some g, some h => g.op.touches && h.op.touches | _, _ => true)
  else none

def runD (Γs : Nat → Tab) (base : Nat) (un : List (Nat × Nat)) (gs : List SG) (S : St) : Option St :=
  match runF Γs base (gs.zipIdx.map fun p => (p.2, p.1)) S with
  | none => none
  | some (S', fs) => if un.all (fun p => match fs[p.1]?, fs[p.2]? with | some a, some b => indepB a b | _, _ => false) then some S' else none

/-- where there is nothing to look at -/
theorem rdOf_notouch {nid : Nat} {S : St} {op : SOp} (h : op.touches = false) : rdOf nid S op = [] := by
  cases op with
  | len b x => cases b <;> simp_all [SOp.touches, rdOf]
  | _ => simp_all [SOp.touches, rdOf]
theorem wr_notouch {nid : Nat} {S : St} {op : SOp} (h : op.touches = false) {p : PV × Option (Nat × AObj)} (he : exec Γ nid S op = some p) : p.2 = none := by
  cases op with
  | mov x => simp only [exec, Option.some.injEq] at he; rw [← he]
  | pick c x y =>
    simp only [exec] at he
    split at he <;> first | (injection he with he; rw [← he]) | cases he
  | bin op x y => simp only [exec, Option.map_eq_some_iff] at he; obtain ⟨_, _, rfl⟩ := he; rfl
  | eq2 n x y =>
    simp only [exec] at he
    split at he
    · split at he
      · injection he with he; rw [← he]
      · cases he
    · cases he
  | eqb n x y =>
    simp only [exec] at he
    split at he
    · injection he with he; rw [← he]
    · cases he
  | aidx e n len k x y =>
    simp only [exec] at he
    split at he
    · split at he
      · simp only [Option.map_eq_some_iff] at he; obtain ⟨_, _, rfl⟩ := he; rfl
      · cases he
    · cases he
  | sidx x y =>
    simp only [exec] at he
    split at he
    · simp only [Option.map_eq_some_iff] at he; obtain ⟨_, _, rfl⟩ := he; rfl
    · cases he
  | lookup ok z x y =>
    simp only [exec] at he
    split at he
    · simp only [Option.map_eq_some_iff] at he; obtain ⟨_, _, rfl⟩ := he; rfl
    · cases he
  | not x =>
    simp only [exec] at he
    split at he <;> first | (injection he with he; rw [← he]) | cases he
  | conv k x =>
    simp only [exec] at he
    split at he <;> first | (injection he with he; rw [← he]) | cases he
  | extr i x =>
    simp only [exec] at he
    split at he
    · simp only [Option.map_eq_some_iff] at he; obtain ⟨_, _, rfl⟩ := he; rfl
    · cases he
  | fld n off x =>
    simp only [exec] at he
    split at he
    · simp only [Option.map_eq_some_iff] at he; obtain ⟨_, _, rfl⟩ := he; rfl
    · cases he
  | pur q xs => simp only [exec, Option.map_eq_some_iff] at he; obtain ⟨_, _, rfl⟩ := he; rfl
  | mkf f c => simp only [exec, Option.some.injEq] at he; rw [← he]
  | boxr x =>
    simp only [exec] at he
    split at he
    · injection he with he; rw [← he]
    · cases he
  | mkb f c => simp only [exec, Option.some.injEq] at he; rw [← he]
  | eqs n ks x y =>
    simp only [exec] at he
    split at he
    · simp only [Option.map_eq_some_iff] at he; obtain ⟨_, _, rfl⟩ := he; rfl
    · cases he
  | build z ps => simp only [exec, Option.map_eq_some_iff] at he; obtain ⟨_, _, rfl⟩ := he; rfl
  | minmax m x y =>
    simp only [exec] at he
    split at he
    · split at he
      · injection he with he; rw [← he]
      · cases he
    · cases he
  | len b x =>
    cases b with
    | true =>
      simp only [exec] at he
      split at he <;> first | (injection he with he; rw [← he]) | cases he
    | false => simp [SOp.touches] at h
  | _ => simp [SOp.touches] at h

/-- each footprint is that of its operation in some state -/
theorem runF_fp {Γs : Nat → Tab} {base : Nat} : ∀ (l : List (Nat × SG)) (S S' : St) (fs : List Foot), runF Γs base l S = some (S', fs) → fs.length = l.length ∧ ∀ (k i : Nat) (g : SG) (f : Foot), l[k]? = some (i, g) → fs[k]? = some f →
    f.d = g.d ∧ f.us = g.uses ∧ (g.op.touches = false → f.rd = [] ∧ f.wr = none)
  | [], S, S', fs, h => by simp only [runF, Option.some.injEq, Prod.mk.injEq] at h; rw [← h.2]; exact ⟨rfl, fun k i g f hk => by simp at hk⟩
  | (j, gj) :: l, S, S', fs, h => by
    simp only [runF] at h
    split at h
    · cases h
    · rename_i p hp
      split at h
      · cases h
      · rename_i S2 fs2 h2
        injection h with h
        injection h with h3 h4
        subst h4
        obtain ⟨h5, h6⟩ := runF_fp l _ _ _ h2
        refine ⟨by simp [h5], fun k i g f hk hf => ?_⟩
        cases k with
        | zero =>
          simp only [List.getElem?_cons_zero, Option.some.injEq, Prod.mk.injEq] at hk hf
          obtain ⟨rfl, rfl⟩ := hk
          subst hf
          refine ⟨rfl, rfl, fun ht => ?_⟩
          unfold eff at hp
          simp only [fpOf, grd]
          split at hp
          · rename_i hw
            rw [hw]
            exact ⟨rdOf_notouch ht, by rw [wr_notouch ht hp]; rfl⟩
          · rename_i hw
            injection hp with hp
            subst hp
            rw [hw]
            exact ⟨rfl, rfl⟩
          · cases hp
        | succ k => exact h6 k i g f (by simpa using hk) (by simpa using hf)

/-- what is still to come, in the text's order -/
def pend (gs : List SG) (listed : Array Bool) : List (Nat × SG) := (gs.zipIdx.map fun p => (p.2, p.1)).filter fun p => !listed.getD p.1 true

theorem mem_pend {gs : List SG} {listed : Array Bool} {i : Nat} {g : SG} : (i, g) ∈ pend gs listed ↔ gs[i]? = some g ∧ listed.getD i true = false := by
  unfold pend
  simp only [List.mem_filter, List.mem_map, Prod.mk.injEq, Prod.exists, Bool.not_eq_true']
  constructor
  · rintro ⟨⟨x, j, h1, rfl, rfl⟩, h2⟩
    rw [List.mem_zipIdx_iff_getElem?] at h1
    exact ⟨h1, h2⟩
  · rintro ⟨h1, h2⟩
    exact ⟨⟨g, i, by rw [List.mem_zipIdx_iff_getElem?]; exact h1, rfl, rfl⟩, h2⟩
theorem pend_sorted (gs : List SG) (listed : Array Bool) : (pend gs listed).Pairwise fun p q => p.1 < q.1 := by
  unfold pend
  refine List.Pairwise.filter _ ?_
  rw [List.pairwise_map]
  have : ∀ (l : List SG) (k : Nat), (l.zipIdx k).Pairwise fun p q => p.2 < q.2 := by
    intro l
    induction l with
    | nil => intro k; simp
    | cons x l ih =>
      intro k
      rw [List.zipIdx_cons, List.pairwise_cons]
      refine ⟨fun q hq => ?_, ih (k + 1)⟩
      obtain ⟨y, j⟩ := q
      have := List.le_snd_of_mem_zipIdx hq
      simp only at this ⊢
      omega
  exact this gs 0
theorem pend_set {gs : List SG} {listed : Array Bool} {i : Nat} {g : SG} {l1 l2 : List (Nat × SG)} (hi : i < listed.size) (h : pend gs listed = l1 ++ (i, g) :: l2) : pend gs (listed.setIfInBounds i true) = l1 ++ l2 := by
  have hsort := pend_sorted gs listed
  rw [h] at hsort
  have h1 : pend gs (listed.setIfInBounds i true) = (pend gs listed).filter fun p => decide (p.1 ≠ i) := by
    unfold pend
    rw [List.filter_filter]
    congr 1
    funext p
    by_cases hp : p.1 = i
    · rw [hp]
      simp [Array.getD_eq_getD_getElem?, Array.getElem?_setIfInBounds_self_of_lt hi]
    · have : (listed.setIfInBounds i true).getD p.1 true = listed.getD p.1 true := by
        simp only [Array.getD_eq_getD_getElem?]
        rw [Array.getElem?_setIfInBounds_ne (fun e => hp e.symm)]
      rw [this]
      simp [hp]
  rw [h1, h, List.filter_append, List.filter_cons]
  simp only [ne_eq, not_true_eq_false, decide_false, Bool.false_eq_true, if_false]
  rw [List.pairwise_append] at hsort
  obtain ⟨_, s2, s3⟩ := hsort
  rw [List.pairwise_cons] at s2
  rw [List.filter_eq_self.2, List.filter_eq_self.2]
  · intro q hq
    have := s2.1 q hq
    simp only at this
    simp
    omega
  · intro q hq
    have := s3 q hq (i, g) (by simp)
    simp only at this
    simp
    omega

/-- the footprints of all that is to come, pairwise apart where nothing orders them -/
def Apart (ops : List Oper) (l : List (Nat × SG)) (fs : List Foot) : Prop :=
  ∀ (a b : Nat) (p q : Nat × SG) (f h : Foot), a < b → l[a]? = some p → l[b]? = some q → fs[a]? = some f → fs[b]? = some h → (amIter (ops.map dmask) ops.length ((ops.map dmask).getD q.1 0)).testBit p.1 = false → Indep f h

theorem drawn_ok {Γs : Nat → Tab} (hΓ : ∀ i, TabOk P (Γs i)) {ops : Array Oper} {gs : List SG} (hc : ops.toList.mapM (cog P hs ops) = some gs) (hd : ∀ o ∈ ops.toList, ∀ t, o.dst = some t → E.can t) {base : Nat} {S' : St} {Q : Exit → Act → World → Prop}
    (hQ : ∀ a' w' L', Rel E S' a' w' L' → Q .normal a' w') : ∀ (fuel : Nat) (listed : Array Bool) (S : St) (a : Act) (w : World) (L : Nat → Value) (fs : List Foot), listed.size = ops.size →
    (∀ i o, ops[i]? = some o → listed.getD i true = true → ∀ e ∈ o.after, Region.binds .any e = true → listed.getD e.on true = true) →
    (∀ i o, ops[i]? = some o → ∀ e ∈ o.after, Region.binds .any e = true → e.on < i) →
    Rel E S a w L → base + ops.size ≤ S.N → runF Γs base (pend gs listed) S = some (S', fs) → Apart ops.toList (pend gs listed) fs → (pend gs listed).length ≤ fuel → wpAnyIn (WF E.rd) 0 P .any ops Q fuel listed a w := by
  have hgl : gs.length = ops.size := by have := mapM_length hc; simpa using this
  intro fuel
  induction fuel with
  | zero =>
    intro listed S a w L fs hsz hcl hback h hN hrun hap hfu
    have hp : pend gs listed = [] := List.eq_nil_of_length_eq_zero (by omega)
    rw [hp] at hrun
    simp only [runF, Option.some.injEq, Prod.mk.injEq] at hrun
    have hrd : Region.ready .any ops listed = [] := by
      rw [List.eq_nil_iff_forall_not_mem]
      intro i hi
      simp only [Region.ready, List.mem_filter, List.mem_range, Bool.and_eq_true, Bool.not_eq_true'] at hi
      obtain ⟨h1, h2, _⟩ := hi
      have : (i, gs[i]'(by omega)) ∈ pend gs listed := mem_pend.2 ⟨List.getElem?_eq_getElem (by omega), h2⟩
      rw [hp] at this
      cases this
    refine ⟨hrd, ?_⟩
    rw [hrun.1] at h
    exact hQ a w L h
  | succ fuel ih =>
    intro listed S a w L fs hsz hcl hback h hN hrun hap hfu
    refine ⟨fun hrd => ?_, fun i hi => ?_⟩
    · -- nothing is ready: all is done
      have hp : pend gs listed = [] := by
        rcases hpe : pend gs listed with _ | ⟨⟨i, g⟩, l⟩
        · rfl
        · exfalso
          have hmem : (i, g) ∈ pend gs listed := by rw [hpe]; simp
          obtain ⟨h1, h2⟩ := mem_pend.1 hmem
          have hil : i < ops.size := by have := (List.getElem?_eq_some_iff.1 h1).1; omega
          have hmin : ∀ j, j < i → listed.getD j true = true := by
            intro j hj
            cases hlj : listed.getD j true with
            | true => rfl
            | false =>
              have hm : (j, gs[j]'(by omega)) ∈ pend gs listed := mem_pend.2 ⟨List.getElem?_eq_getElem (by omega), hlj⟩
              have hs := pend_sorted gs listed
              rw [hpe, List.pairwise_cons] at hs
              rw [hpe] at hm
              rcases List.mem_cons.1 hm with hm | hm
              · injection hm with hm; omega
              · have := hs.1 _ hm
                simp only at this
                omega
          have : i ∈ Region.ready .any ops listed := by
            simp only [Region.ready, List.mem_filter, List.mem_range, Bool.and_eq_true, Bool.not_eq_true']
            refine ⟨hil, h2, ?_⟩
            rw [Array.getElem?_eq_getElem hil]
            simp only [Option.map_some, Option.getD_some, Array.all_eq_true_iff_forall_mem, Bool.or_eq_true, Bool.not_eq_true']
            intro e he
            cases hb : Region.binds .any e with
            | false => exact .inl rfl
            | true =>
              right
              have hlt := hback i _ (Array.getElem?_eq_getElem hil) e he hb
              have := hmin e.on hlt
              rw [Array.getD_eq_getD_getElem?] at this ⊢
              rw [Array.getElem?_eq_getElem (by omega)] at this ⊢
              simpa using this
          rw [hrd] at this
          cases this
      rw [hp] at hrun
      simp only [runF, Option.some.injEq, Prod.mk.injEq] at hrun
      rw [hrun.1] at h
      exact hQ a w L h
    · simp only [Region.ready, List.mem_filter, List.mem_range, Bool.and_eq_true, Bool.not_eq_true'] at hi
      obtain ⟨hil, hli, hpre⟩ := hi
      have ho : ops[i]? = some ops[i] := Array.getElem?_eq_getElem hil
      rw [ho] at hpre
      simp only [Option.map_some, Option.getD_some, Array.all_eq_true_iff_forall_mem, Bool.or_eq_true, Bool.not_eq_true'] at hpre
      have hgi : gs[i]? = some (gs[i]'(by omega)) := List.getElem?_eq_getElem (by omega)
      have hmem : (i, gs[i]'(by omega)) ∈ pend gs listed := mem_pend.2 ⟨hgi, hli⟩
      obtain ⟨l1, l2, hsplit⟩ := List.append_of_mem hmem
      rw [hsplit] at hrun hap
      have hpreT : ∀ e ∈ ops[i].after, Region.binds .any e = true → listed.getD e.on true = true := fun e he hb => by
        rcases hpre e he with h1 | h1
        · rw [hb] at h1; cases h1
        · have hlt := hback i _ ho e he hb
          rw [Array.getD_eq_getD_getElem?] at h1 ⊢
          rw [Array.getElem?_eq_getElem (by omega)] at h1 ⊢
          simpa using h1
      -- the ancestors are done
      have hanc : ∀ j, (amIter (ops.toList.map dmask) ops.toList.length ((ops.toList.map dmask).getD i 0)).testBit j = true → listed.getD j true = true := by
        refine amIter_ok (R := fun j => listed.getD j true = true) (fun k d hk hR => ?_) _ _ ?_
        · rw [List.getElem?_map, Option.map_eq_some_iff] at hk
          obtain ⟨o, ho', rfl⟩ := hk
          exact dmask_ok (fun e he hb => hcl k o (by simpa using ho') hR e he hb)
        · have : (ops.toList.map dmask).getD i 0 = dmask ops[i] := by simp [List.getD_eq_getElem?_getD, hil]
          rw [this]
          exact dmask_ok (fun e he hb => hpreT e he hb)
      have hfl := (runF_fp _ _ _ _ hrun).1
      obtain ⟨p, hp, _, hrest⟩ := runF_extract l1 i _ l2 S S' fs hrun (fun k fk fi hk hfk hfi => by
        have hk1 : (l1 ++ (i, gs[i]'(by omega)) :: l2)[k]? = some l1[k] := by rw [List.getElem?_append_left hk]; exact List.getElem?_eq_getElem hk
        refine hap k l1.length l1[k] (i, gs[i]'(by omega)) fk fi hk hk1 (by simp) hfk hfi ?_
        cases hb : (amIter (ops.toList.map dmask) ops.toList.length ((ops.toList.map dmask).getD i 0)).testBit l1[k].1 with
        | false => rfl
        | true =>
          have h1 := hanc _ hb
          have h2 : l1[k] ∈ pend gs listed := by rw [hsplit]; simp [List.getElem_mem]
          have h3 := (mem_pend (i := l1[k].1) (g := l1[k].2)).1 h2
          rw [h3.2] at h1
          cases h1)
      -- the step
      have hcog : cog P hs ops ops[i] = some (gs[i]'(by omega)) := by
        have : ∀ (l : List Oper) (r : List SG), l.mapM (cog P hs ops) = some r → ∀ (k : Nat) (o : Oper) (g : SG), l[k]? = some o → r[k]? = some g → cog P hs ops o = some g := by
          intro l
          induction l with
          | nil => intro r _ k o g hk; simp at hk
          | cons x l ihl =>
            intro r hr k o g hk hg
            simp only [List.mapM_cons, Option.bind_eq_bind, Option.bind_eq_some_iff, Option.pure_def, Option.some.injEq] at hr
            obtain ⟨y, hy, ys, hys, rfl⟩ := hr
            cases k with
            | zero => simp at hk hg; subst hk hg; exact hy
            | succ k => exact ihl ys hys k o g (by simpa using hk) (by simpa using hg)
        exact this _ _ hc i _ _ (by simp) hgi
      have hstp : stp (Γs i) (base + i) S (gs[i]'(by omega)) = some (S.app (gs[i]'(by omega)).d p.1 p.2) := by rw [stp_eff, hp]; rfl
      have hstep := stp_sound (K := wpAnyIn (WF E.rd) 0 P .any ops Q fuel (listed.setIfInBounds i true)) (Q := Q) (hΓ i) hcog h (nid := base + i) (by omega) (hd _ (by simp)) hstp (fun a' w' L' h' => by
        refine ih _ _ a' w' L' (fs.eraseIdx l1.length) (by simpa using hsz) (fun k o hk hlk e he hb => ?_) hback h' hN (by rw [pend_set (by omega) hsplit]; exact hrest) ?_ ?_
        · by_cases hki : k = i
          · subst hki
            rw [ho] at hk
            injection hk with hk
            subst hk
            have hlt := hback k _ ho e he hb
            have := hpreT e he hb
            simp only [Array.getD_eq_getD_getElem?] at this ⊢
            rw [Array.getElem?_setIfInBounds_ne (by omega)]
            exact this
          · have hlk' : listed.getD k true = true := by
              simp only [Array.getD_eq_getD_getElem?] at hlk ⊢
              rw [Array.getElem?_setIfInBounds_ne (fun e => hki e.symm)] at hlk
              exact hlk
            have := hcl k o hk hlk' e he hb
            by_cases hei : e.on = i
            · rw [hei, Array.getD_eq_getD_getElem?, Array.getElem?_setIfInBounds_self_of_lt (by omega)]
              rfl
            · simp only [Array.getD_eq_getD_getElem?] at this ⊢
              rw [Array.getElem?_setIfInBounds_ne (fun e => hei e.symm)]
              exact this
        · rw [pend_set (by omega) hsplit]
          intro x y p' q' f h0 hxy hp' hq' hf hh hanc'
          -- places in the longer list
          have hget : ∀ (z : Nat), (l1 ++ l2)[z]? = (l1 ++ (i, gs[i]'(by omega)) :: l2)[if z < l1.length then z else z + 1]? := by
            intro z
            split
            · rename_i hz; rw [List.getElem?_append_left hz, List.getElem?_append_left hz]
            · rename_i hz
              rw [List.getElem?_append_right (by omega), List.getElem?_append_right (by omega)]
              have : z + 1 - l1.length = (z - l1.length) + 1 := by omega
              rw [this, List.getElem?_cons_succ]
          have hgetf : ∀ (z : Nat), (fs.eraseIdx l1.length)[z]? = fs[if z < l1.length then z else z + 1]? := by
            intro z
            rw [List.getElem?_eraseIdx]
            split <;> rfl
          rw [hget] at hp' hq'
          rw [hgetf] at hf hh
          refine hap _ _ p' q' f h0 ?_ hp' hq' hf hh hanc'
          split <;> split <;> omega
        · rw [pend_set (by omega) hsplit]
          rw [hsplit] at hfu
          simp at hfu ⊢
          omega)
      unfold wpOpIn
      rw [ho]
      simp only
      split
      · rename_i hw
        rw [if_pos hw] at hstep
        exact hstep
      · rename_i hw
        rw [if_neg hw] at hstep
        exact hstep

theorem mem_unPairs {ops : List Oper} {i j : Nat} (hj : j < ops.length) (hij : i < j) (h : (amIter (ops.map dmask) ops.length ((ops.map dmask).getD j 0)).testBit i = false) : (i, j) ∈ unPairs ops := by
  unfold unPairs
  simp only [List.mem_flatMap, List.mem_range, List.mem_filterMap]
  exact ⟨j, hj, i, hij, by rw [h]; rfl⟩

theorem indep_of {g h : SG} {f e : Foot} (hf : f.d = g.d ∧ f.us = g.uses) (he : e.d = h.d ∧ e.us = h.uses) (ha : fpApart g h = true) (hi : indepB f e = true) : Indep f e := by
  unfold fpApart at ha
  unfold indepB at hi
  rw [Bool.and_eq_true] at ha hi
  obtain ⟨a1, a2⟩ := ha
  obtain ⟨i1, i2⟩ := hi
  refine ⟨fun t ht => ?_, fun t ht => ?_, fun t ht hq => ?_, fun i hw => ?_, fun i hw => ?_, fun i hw hq => ?_⟩
  · rw [hf.1] at ht
    rw [ht] at a1
    simp only [Bool.and_eq_true, Bool.not_eq_true', List.contains_eq_mem, decide_eq_false_iff_not] at a1
    rw [he.2]
    exact a1.1
  · rw [he.1] at ht
    rw [ht] at a2
    simp only [Bool.not_eq_true', List.contains_eq_mem, decide_eq_false_iff_not] at a2
    rw [hf.2]
    exact a2
  · rw [hf.1] at ht
    rw [he.1] at hq
    rw [ht, hq] at a1
    simp at a1
  · rw [hw] at i1
    simp only [Bool.and_eq_true, Bool.not_eq_true', List.contains_eq_mem, decide_eq_false_iff_not] at i1
    exact i1.1
  · rw [hw] at i2
    simp only [Bool.not_eq_true', List.contains_eq_mem, decide_eq_false_iff_not] at i2
    exact i2
  · rw [hw, hq] at i1
    simp at i1

theorem pend_all (gs : List SG) (n : Nat) (hn : gs.length = n) : pend gs (Array.replicate n false) = gs.zipIdx.map fun p => (p.2, p.1) := by
  unfold pend
  rw [List.filter_eq_self]
  rintro ⟨i, g⟩ hp
  simp only [List.mem_map, Prod.mk.injEq, Prod.exists] at hp
  obtain ⟨x, j, h1, rfl, rfl⟩ := hp
  rw [List.mem_zipIdx_iff_getElem?] at h1
  have := (List.getElem?_eq_some_iff.1 h1).1
  simp only [Array.getD_eq_getD_getElem?, Array.getElem?_replicate]
  rw [if_pos (by omega)]
  rfl

theorem V_drw {Γs : Nat → Tab} (hΓ : ∀ i, TabOk P (Γs i)) (hm : P.follows .mixedOrders = true) {nt id : Nat} {ops : Array Oper} {gs : List SG} {un : List (Nat × Nat)} {Q : Exit → St → Prop} {S S' : St} (hc : ops.toList.mapM (cog P hs ops) = some gs) (hd : ∀ o ∈ ops.toList, ∀ t, o.dst = some t → t < nt)
    (hu : cdraw ops.toList gs = some un) (hr : runD Γs S.N un gs { S with N := S.N + gs.length } = some S') (h : Q .normal S') : V P nt (.region id ops true) Q S := fun E hE hk a w L hrel => by
  have hl : gs.length = ops.size := by have := mapM_length hc; simpa using this
  refine wpIn_region_any hm ?_
  unfold cdraw at hu
  simp only at hu
  split at hu
  · rename_i hchk
    injection hu with hu
    rw [Bool.and_eq_true] at hchk
    obtain ⟨hap, hback⟩ := hchk
    unfold runD at hr
    split at hr
    · cases hr
    · rename_i S1 fs hrun
      split at hr
      · rename_i hall
        injection hr with hr
        subst hr
        have hfp := runF_fp _ _ _ _ hrun
        have hpd := pend_all gs ops.size hl
        refine drawn_ok (E := E) (base := S.N) hΓ hc (can_of hE hk hd) (fun a' w' L' h' => ⟨S1, L', h', h⟩) ops.size (Array.replicate ops.size false) { S with N := S.N + gs.length } a _ L fs (by simp) ?_ ?_ ((hrel.room gs.length).drew _) (by simp [hl]) (by rw [hpd]; exact hrun) ?_ (by rw [hpd]; simp [hl])
        · intro i o ho hli
          exfalso
          have := (Array.getElem?_eq_some_iff.1 ho).1
          simp only [Array.getD_eq_getD_getElem?, Array.getElem?_replicate] at hli
          rw [if_pos this] at hli
          cases hli
        · intro i o ho e he hb
          have h1 := List.all_eq_true.1 hback (o, i) (by rw [List.mem_zipIdx_iff_getElem?]; simpa using ho)
          have h2 := List.all_eq_true.1 h1 e (by simpa using he)
          rw [hb] at h2
          simpa using h2
        · rw [hpd]
          intro x y p q f e hxy hp hq hf he hanc
          have hget : ∀ (z : Nat) (r : Nat × SG), (gs.zipIdx.map fun p => (p.2, p.1))[z]? = some r → r.1 = z ∧ gs[z]? = some r.2 := by
            intro z r hz
            simp only [List.getElem?_map, Option.map_eq_some_iff, Prod.exists, List.getElem?_zipIdx, Prod.mk.injEq] at hz
            obtain ⟨u, v, ⟨u', hu', rfl, rfl⟩, rfl⟩ := hz
            exact ⟨by simp, hu'⟩
          obtain ⟨p1, p2⟩ := hget x p hp
          obtain ⟨q1, q2⟩ := hget y q hq
          have fx := hfp.2 x p.1 p.2 f hp hf
          have fy := hfp.2 y q.1 q.2 e hq he
          have hy : y < ops.toList.length := by have := (List.getElem?_eq_some_iff.1 q2).1; simp; omega
          rw [p1, q1] at hanc
          have hmem := mem_unPairs hy hxy hanc
          have ha := List.all_eq_true.1 hap _ hmem
          simp only [p2, q2] at ha
          refine indep_of ⟨fx.1, fx.2.1⟩ ⟨fy.1, fy.2.1⟩ ha ?_
          cases htx : p.2.op.touches with
          | false =>
            obtain ⟨r1, r2⟩ := fx.2.2 htx
            unfold indepB
            rw [r1, r2]
            cases e.wr <;> simp
          | true =>
            cases hty : q.2.op.touches with
            | false =>
              obtain ⟨r1, r2⟩ := fy.2.2 hty
              unfold indepB
              rw [r1, r2]
              cases f.wr <;> simp
            | true =>
              have hin : (x, y) ∈ un := by
                rw [← hu, List.mem_filter]
                exact ⟨hmem, by simp [p2, q2, htx, hty]⟩
              have := List.all_eq_true.1 hall _ hin
              simpa [hf, he] using this
      · cases hr
  · cases hu
end
end Go.TQ
