/-
  Contracts: flat trusts, the view of a node that has heard nothing. Conditions: none.
-/
import Derived.Test.YtncjalhhkmojlaaCopy
namespace Go.Proofs.Ytncjalhhkmojlaa
open Go.TQ

def upto (n : Nat) : List Int := (List.range n).map fun i : Nat => (i : Int)
theorem upto_succ (n : Nat) : upto (n + 1) = upto n ++ [(n : Int)] := by simp [upto, List.range_succ]
@[simp] theorem upto_length (n : Nat) : (upto n).length = n := by simp [upto]
def flatC (n : Nat) (th : Int) : List PV := [I th, .sl ((upto n).map ofI), .sl []]
noncomputable def flatM : Model := mkM (fun p : Nat × Int => [I p.1, I p.2]) (fun p => p.1 ≤ 1000) fun p => .agg (flatC p.1 p.2)
theorem flat_sound : SoundM Try.prog 41 flatM := mkM_sound ok_trustquorumplay_Flat.enters fun p hn => by
  obtain ⟨n, th⟩ := p
  have tk : TabOk Try.prog (tab []) := tab_ok trivial
  refine ok_trustquorumplay_Flat.con (by simp) (ev_sound tk _ _ _ ?_)
  simp only at hn
  simp [c_trustquorumplay_Flat]
  refine VS_ownB 1 3 1 3 1 (by simp; rfl) (by simp) (by simp) (by simp) (by simp) ?_
  refine VS_loop [0, 4, 5, 6] 4 (fun m S => ∃ k ver : Nat, k ≤ n ∧ m = n - k ∧ S.env 0 = I n ∧ S.env 4 = .ptr 0 1 0 ∧ S.env 5 = .ptr 3 1 0 ∧ S.env 6 = I k
      ∧ S.H 0 = ⟨1, .box [I 0, .nils, .nils]⟩ ∧ S.H 3 = ⟨1, .box [I th, .own 1 ver, .nils]⟩ ∧ S.H 1 = ⟨ver, .row 3 1 ((upto k).map ofI)⟩) n ?_ ?_ ?_
  · simp
  · exact ⟨0, 1, by simp [upto]⟩
  · rintro m S ⟨k, ver, hk, rfl, e0, e4, e5, e6, H0, H3, H1⟩ hN hf hU
    refine ev_sound tk _ _ _ ?_
    by_cases hlt : k < n
    · have hw : IntKind.i64.wrap ((k : Int) + 1) = (k : Int) + 1 := i64_in (by omega) (by omega)
      have hs1 : (k + 1) * 8 ≤ 140737488355328 := by omega
      have hs2 : k + 1 ≤ maxLen := by simp [maxLen]; omega
      have hl : (k : Int) < n := by omega
      simp [e0, e4, e5, e6, H0, H1, H3, hN, hl, hw, hs1, hs2, hU]
      refine ⟨?_, n - (k + 1), by omega, k + 1, by omega, rfl, by simp, by simp [upto_succ, ofI]⟩
      simp [ofI]
    · have hl : ¬ (k : Int) < n := by omega
      have : k = n := by omega
      subst this
      simp [e0, e4, e5, e6, H0, H1, H3, hN, flatC, ofI]
theorem flat_m (cs : List PV) (n : Nat) (th : Int) (h : n ≤ 1000) : flatM.m cs [I n, I th] = some (.agg (flatC n th), []) :=
  mkM_m (enc := fun p : Nat × Int => [I p.1, I p.2]) (pre := fun p => p.1 ≤ 1000) (spec := fun p => .agg (flatC p.1 p.2)) (fun x y h => by simp at h; rw [show x.1 = y.1 by omega, h.2]) cs (n, th) h
@[simp] theorem flat_r : flatM.recv = false := rfl
@[simp] theorem flat_f : flatM.fresh = false := rfl
theorem flat_isTrust (n : Nat) (th : Int) (h : n ≤ 1000) : isTrust 1 (flatC n th) := ⟨th, upto n, [], rfl, by simp; omega, by simp, by simp⟩

def view0 (t : List PV) : PV := .agg [.sl ((.bool true :: t) :: List.replicate 9 [.bool false, I 0, .sl [], .sl []])]
noncomputable def view0M : Model := mkM (fun t : List PV => [I 0, .agg t, .sl []]) (isTrust 1) fun t => view0 t
set_option maxHeartbeats 2000000 in
theorem view0_sound : SoundM Try.prog 52 view0M := mkM_sound ok_prepare_View.enters fun t ht => by
  obtain ⟨th, nodes, inner, rfl⟩ := ht.three
  have tk : TabOk Try.prog (tab [(91, copyM 1)]) := tab_ok ⟨copy_sound 1, trivial⟩
  refine ok_prepare_View.con (by simp) (ev_sound tk _ _ _ ?_)
  have hm := copy_m 1 [] _ ht
  simp [c_prepare_View, hm, maxLen]
  refine VS_loop [6, 7, 26, 27, 28] 5 (fun m S => S.env 6 = .ptr 1 1 0 ∧ S.env 7 = .ptr 4 1 0 ∧ S.env 27 = I 0 ∧ S.env 28 = I 0
      ∧ S.H 1 = ⟨1, .box [.nils]⟩ ∧ S.H 4 = ⟨1, .box [.own 2 1]⟩ ∧ S.H 2 = ⟨1, .row 64 4 ([.bool true, I th, .sl (nodes.map ofI), .sl inner] :: List.replicate 9 [.bool false, I 0, .nils, .nils])⟩) 0 ?_ ?_ ?_
  · simp [List.replicate]
  · simp [List.replicate]
  · rintro m S ⟨e6, e7, e27, e28, H1, H4, H2⟩ hN hf hU
    refine ev_sound tk _ _ _ ?_
    simp [e6, e7, e27, e28, H1, H4, H2, hN, view0]
theorem view0_m (cs : List PV) (t : List PV) (h : isTrust 1 t) : view0M.m cs [I 0, .agg t, .sl []] = some (view0 t, []) :=
  mkM_m (enc := fun t : List PV => [I 0, .agg t, .sl []]) (pre := isTrust 1) (spec := fun t => view0 t) (fun x y h => by simp at h; rw [h]) cs t h
@[simp] theorem view0_r : view0M.recv = false := rfl
@[simp] theorem view0_f : view0M.fresh = false := rfl
end Go.Proofs.Ytncjalhhkmojlaa
