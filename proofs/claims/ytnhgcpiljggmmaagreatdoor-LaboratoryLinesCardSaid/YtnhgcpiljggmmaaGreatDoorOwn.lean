/-
  A nil slice may be taken as an own row of no elements. Conditions: none (generic in the program).
-/
import Derived.Test.YtnhgcpiljggmmaaGreatDoorTy
namespace Go.TQ
open Go.RowKit
section
variable {P : Program} {S : St} {nt : Nat} {Q : Exit → St → Prop} {E : En} {a : Act} {w : World} {L : Nat → Value}

theorem Rel.row0 (h : Rel E S a w L) {id : Nat} (hid : id < S.N) (e k : Nat) :
    Rel E { S with H := upd S.H id ⟨(S.H id).ver + 1, .row e k []⟩ } a w (upd L id (.slice none 0 0)) :=
  (h.turn (w' := w) hid ⟨(S.H id).ver + 1, .row e k []⟩ (.slice none 0 0) (.inr (Nat.lt_succ_self _)) rfl rfl rfl (Nat.le_refl _) (fun _ _ _ => rfl)
    (fun b _ hb => by simp [blk] at hb) (fun _ _ => ⟨[], ⟨by simp, .inl ⟨rfl, rfl⟩⟩, by simp, by exact ⟨rfl, fun i y v hy => by simp at hy⟩⟩)).1

theorem own0 {S : St} {id : Nat} (hid : id < S.N) (e k : Nat) {w : World} {M : Nat → Prop} {v : Value} (h : v = .slice none 0 0) :
    Rep w M (St.gh { S with H := upd S.H id ⟨(S.H id).ver + 1, .row e k []⟩ } (upd L id (.slice none 0 0))) (.own id ((S.H id).ver + 1)) v := by
  subst h
  exact .own _ _ _ _ _ hid (by simp [St.gh]) (fun _ => by simp [St.gh])

end
end Go.TQ
