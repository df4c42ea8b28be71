/-
  A nil slice may be taken as an own row of no elements. Conditions: none (generic in the program).
-/
import Derived.Test.YtaebanabjdmgfaaGreatTy
namespace Go.TQ
open Go.RowKit
section
variable {P : Program} {S : St} {nt : Nat} {Q : Exit → St → Prop} {E : En} {a : Act} {w : World} {L : Nat → Value}

theorem Rel.row0 (h : Rel E S a w L) {id : Nat} (hid : id < S.N) (e k : Nat) :
    Rel E { S with H := upd S.H id ⟨(S.H id).ver + 1, .row e k []⟩ } a w (upd L id (.slice none 0 0)) :=
  (h.turn (w' := w) hid ⟨(S.H id).ver + 1, .row e k []⟩ (.slice none 0 0) (.inr (Nat.lt_succ_self _)) rfl rfl rfl (Nat.le_refl _) (fun _ _ _ => rfl)
    (fun b _ hb => by simp [blk] at hb) (fun _ _ => ⟨[], ⟨by simp, .inl ⟨rfl, rfl⟩⟩, by simp, by exact ⟨rfl, fun i y v hy => by simp at hy⟩⟩)).1

theorem own0 {S : St} {id : Nat} (hid : id < S.N) (e k : Nat) {w : World} {M : Nat → Prop} {v : Value} (h : v = .slice none 0 0) :
    Rep w M (St.gh { S with H := upd S.H id ⟨(S.H id).ver + 1, .row e k []⟩ } (upd L id (.slice none 0 0))) (.own id ((S.H id).ver + 1)) v := by
  subst h
  exact .own _ _ _ _ _ hid (by simp [St.gh]) (fun _ => by simp [St.gh])

/-- a temporary -/
theorem VS_ownT {sc : SC} (id t e k : Nat) (ht : S.env t = .nils) (hid : id < S.N)
    (h : VS P nt sc Q { S with env := upd S.env t (.own id ((S.H id).ver + 1)), H := upd S.H id ⟨(S.H id).ver + 1, .row e k []⟩ }) : VS P nt sc Q S := by
  intro c hs hc E hE hk a w L hrel
  have h1 := hrel.row0 hid e k
  refine h c hs hc E hE hk a w (upd L id (.slice none 0 0)) ⟨h1.defers, h1.size, fun j => ?_, h1.obj, h1.apart, h1.fresh, h1.fr, h1.rcv⟩
  show Rep w _ _ (upd S.env t _ j) _
  by_cases hj : j = t
  · subst hj
    have h2 := hrel.env j
    rw [ht] at h2
    rw [upd_same]
    exact own0 hid e k h2.nils_inv
  · rw [upd_ne _ _ hj]
    exact h1.env j

/-- a cell of a box -/
theorem VS_ownB {sc : SC} (id b j e k : Nat) {cs : List PV} (hb : (S.H b).c = .box cs) (hj : cs[j]? = some .nils) (hne : b ≠ id) (hbN : b < S.N) (hid : id < S.N)
    (h : VS P nt sc Q { S with H := upd (upd S.H id ⟨(S.H id).ver + 1, .row e k []⟩) b ⟨(S.H b).ver, .box (cs.set j (.own id ((S.H id).ver + 1)))⟩ }) : VS P nt sc Q S := by
  intro c hs hc E hE hk a w L hrel
  have h1 := hrel.row0 hid e k
  have hver : ∀ i, (upd (upd S.H id ⟨(S.H id).ver + 1, .row e k []⟩) b ⟨(S.H b).ver, .box (cs.set j (.own id ((S.H id).ver + 1)))⟩ i).ver = (upd S.H id ⟨(S.H id).ver + 1, .row e k []⟩ i).ver := by
    intro i
    by_cases hi : i = b
    · subst hi; rw [upd_same, upd_ne _ _ hne]
    · rw [upd_ne _ _ hi]
  have hlive : ∀ i, (upd (upd S.H id ⟨(S.H id).ver + 1, .row e k []⟩) b ⟨(S.H b).ver, .box (cs.set j (.own id ((S.H id).ver + 1)))⟩ i).c.live = (upd S.H id ⟨(S.H id).ver + 1, .row e k []⟩ i).c.live := by
    intro i
    by_cases hi : i = b
    · subst hi; rw [upd_same, upd_ne _ _ hne, hb]; rfl
    · rw [upd_ne _ _ hi]
  have hgh : St.gh { S with H := upd (upd S.H id ⟨(S.H id).ver + 1, .row e k []⟩) b ⟨(S.H b).ver, .box (cs.set j (.own id ((S.H id).ver + 1)))⟩ } (upd L id (.slice none 0 0)) = St.gh { S with H := upd S.H id ⟨(S.H id).ver + 1, .row e k []⟩ } (upd L id (.slice none 0 0)) := by
    simp only [St.gh]
    congr 1
    funext i
    exact hver i
  have hmu : mutb E { S with H := upd (upd S.H id ⟨(S.H id).ver + 1, .row e k []⟩) b ⟨(S.H b).ver, .box (cs.set j (.own id ((S.H id).ver + 1)))⟩ } (upd L id (.slice none 0 0)) = mutb E { S with H := upd S.H id ⟨(S.H id).ver + 1, .row e k []⟩ } (upd L id (.slice none 0 0)) := by
    funext q
    simp only [mutb, hlive]
  refine h c hs hc E hE hk a w (upd L id (.slice none 0 0)) ⟨h1.defers, h1.size, fun t => ?_, fun i hi => ?_, fun i i' q hi hi' hl hl' => ?_, fun i hi => ?_, h1.fr, fun hq hl hv => ?_⟩
  · rw [hgh, hmu]; exact h1.env t
  · rw [hgh, hmu]
    by_cases hib : i = b
    · subst hib
      have h2 := h1.obj i hi
      simp only [upd_same, upd_ne _ _ hne] at h2 ⊢
      rw [hb] at h2
      obtain ⟨q, cur, T, e1, e2, e3, e4⟩ := h2
      refine ⟨q, cur, T, e1, e2, e3, by rw [List.length_set]; exact e4.1, fun n y v hy hv => ?_⟩
      rw [List.getElem?_set] at hy
      split at hy
      · rename_i hjn
        subst hjn
        split at hy
        · injection hy with hy
          subst hy
          exact own0 hid e k (e4.2 j .nils v hj hv).nils_inv
        · cases hy
      · exact e4.2 n y v hy hv
    · have h2 := h1.obj i hi
      simp only [upd_ne _ _ hib] at h2 ⊢
      exact h2
  · exact h1.apart i i' q hi hi' ((hlive i).symm.trans hl) ((hlive i').symm.trans hl')
  · have h2 := h1.fresh i hi
    have hib : i ≠ b := by intro e; subst e; exact absurd hbN (by simpa using hi)
    simp only at h2 ⊢
    rw [upd_ne _ _ hib]
    exact h2
  · exact h1.rcv hq ((hlive 0).symm.trans hl) ((hver 0).symm.trans hv)

end
end Go.TQ
