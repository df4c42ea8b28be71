/-
  Contracts: joins of ballots. Conditions: none.
-/
import Derived.Test.YtncjalhhkmojlaaOrd
namespace Go.Proofs.Ytncjalhhkmojlaa
open Go.TQ

noncomputable abbrev joinM : Model := m3B fun h l b => .tup [B (join h l b).1, B (join h l b).2]
set_option maxHeartbeats 4000000 in
theorem join_sound : SoundM Try.prog 19 joinM := m3B_ok ok_prepare_Join.enters fun a s b t d u => by
  refine ok_prepare_Join.con (by simp) (ev_sound (tab_ok (l := [(48, zeroM), (49, lessM), (50, compatM)]) ⟨zero_ok, less_ok, compat_ok, trivial⟩) _ _ _ ?_)
  cases h1 : zeroB ⟨d, u⟩ with
  | true => simp [c_prepare_Join, join, h1]
  | false =>
    cases h2 : zeroB ⟨a, s⟩ with
    | true => simp [c_prepare_Join, join, h1, h2]
    | false =>
      cases h3 : lessB ⟨a, s⟩ ⟨d, u⟩ with
      | true =>
        cases h4 : compat ⟨a, s⟩ ⟨d, u⟩ <;> cases h5 : compat ⟨b, t⟩ ⟨d, u⟩ <;> simp [c_prepare_Join, join, h1, h2, h3, h4, h5]
      | false =>
        cases h4 : lessB ⟨d, u⟩ ⟨a, s⟩ <;> cases h5 : compat ⟨a, s⟩ ⟨d, u⟩ <;> cases h6 : zeroB ⟨b, t⟩ <;> cases h7 : lessB ⟨b, t⟩ ⟨d, u⟩ <;> simp [c_prepare_Join, join, h1, h2, h3, h4, h5, h6, h7]

end Go.Proofs.Ytncjalhhkmojlaa
