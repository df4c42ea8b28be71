/-
  The law PrepareJoins answers true. Conditions: none.
-/
import Derived.Test.YtncjalhhkmojlaaFlat
import Derived.Test.YtncjalhhkmojlaaJoin
namespace Go.Proofs.Ytncjalhhkmojlaa
open Go.TQ
@[simp] theorem Ballot.eta (b : Ballot) : Ballot.mk b.c b.v = b := rfl

noncomputable def sane25M : Model := mkM (fun _ : Unit => []) (fun _ => True) fun _ => .bool true
theorem sane25_sound : SoundM Try.prog 24 sane25M := mkM_sound ok_trustquorumlaw25_sane.enters fun _ _ => by
  have tk : TabOk Try.prog (tab [(19, joinM), (41, flatM), (52, view0M)]) := tab_ok ⟨join_sound, flat_sound, view0_sound, trivial⟩
  refine ok_trustquorumlaw25_sane.con (by simp) (ev_sound tk _ _ _ ?_)
  have hm : flatM.m [] [I 2, I 1] = some (.agg (flatC 2 1), []) := flat_m [] 2 1 (by omega)
  have hv := view0_m [] (flatC 2 1) (flat_isTrust 2 1 (by omega))
  have hl : lessB ⟨2, ⟨#[97]⟩⟩ ⟨3, ⟨#[98]⟩⟩ = true := (lessB_iff _ _).2 (.inl (by decide))
  have hj : join ⟨2, ⟨#[97]⟩⟩ ⟨0, ⟨#[]⟩⟩ ⟨3, ⟨#[98]⟩⟩ = (⟨3, ⟨#[98]⟩⟩, ⟨2, ⟨#[97]⟩⟩) := by simp [join, zeroB, hl, compat]
  have hf : flatC 2 1 = [I 1, .sl [[I 0], [I 1]], .sl []] := rfl
  rw [hf] at hm hv
  simp [view0] at hv
  simp [c_trustquorumlaw25_sane, hm, hv, hj]
theorem sane25_m (cs : List PV) : sane25M.m cs [] = some (.bool true, []) :=
  mkM_m (enc := fun _ : Unit => []) (pre := fun _ => True) (spec := fun _ => .bool true) (fun _ _ _ => rfl) cs () trivial
@[simp] theorem sane25_r : sane25M.recv = false := rfl
@[simp] theorem sane25_f : sane25M.fresh = false := rfl

theorem low_nz (s : Sr) : zeroB (low s).1 = false := by
  have := (range_bd s 1 6 (by omega)).1
  simp only [zeroB, low, Bool.and_eq_false_iff]
  exact .inl (decide_eq_false (by omega))

set_option maxHeartbeats 4000000 in
theorem prepareJoins_con (l : List Int) (hl : l.length ≤ 9223372036854775807) : Con Try.prog 4 false [] [.sl (l.map ofI)] (.bool true) [] := by
  have tk : TabOk Try.prog (tab [(11, newM), (13, nM), (18, lowM), (19, joinM),
      (20, rzeroM), (21, rlessM), (22, rcompatM), (23, rpreparesM), (24, sane25M)]) :=
    tab_ok ⟨new_sound, n_ok, low_sound, join_sound, rzero_ok, rless_ok, rcompat_ok, rprepares_ok, sane25_sound, trivial⟩
  refine ok_trustquorumlaw25_PrepareJoins.con (by simp) (ev_sound tk _ _ _ ?_)
  have hm := new_m [] l hl
  have hn := n_m ⟨l.take 800, 0⟩ 8 (new_ok l) (by omega)
  have hd := draw_lt ⟨l.take 800, 0⟩ 8 (by omega)
  generalize hs0 : (⟨l.take 800, 0⟩ : Sr) = s0 at hm hn hd
  have hok0 : s0.ok := hs0 ▸ new_ok l
  simp [c_trustquorumlaw25_PrepareJoins, hm, hn]
  refine VS_ownT 6 6 29 2 (by simp) (by simp) ?_
  refine VS_loop [3, 4, 5, 6, 7] 7 (fun m S => ∃ (s : Sr) (hi lo : Ballot) (all : List Ballot) (ver : Nat), s.ok ∧ S.env 3 = .ptr 2 1 0 ∧ S.env 4 = .ptr 4 1 0 ∧ S.env 5 = .ptr 5 1 0 ∧ S.env 6 = .own 6 ver ∧ S.env 7 = I m
      ∧ S.H 2 = ⟨1, .box [.sl (s.l.map ofI), I s.k]⟩ ∧ S.H 4 = ⟨1, .box [I hi.c, .str hi.v]⟩ ∧ S.H 5 = ⟨1, .box [I lo.c, .str lo.v]⟩ ∧ S.H 6 = ⟨ver, .row 29 2 (all.map Ballot.cells)⟩
      ∧ Joined hi lo all ∧ all.length + m ≤ 8 ∧ (all = [] → zeroB hi = true)) (draw s0 8).1.toNat ?_ ?_ ?_
  · simp
  · refine ⟨(draw s0 8).2, ⟨0, ⟨#[]⟩⟩, ⟨0, ⟨#[]⟩⟩, [], 1, draw_ok hok0 8, ?_⟩
    have hz0 : zeroB ⟨0, ⟨#[]⟩⟩ = true := by simp [zeroB]
    simp [hz0]
    exact ⟨by omega, ⟨by simp [hz0], by simp [hz0], by simp⟩, by omega⟩
  · rintro m S ⟨s, hi, lo, all, ver, hs, e3, e4, e5, e6, e7, H2, H4, H5, H6, hj, hlen, hemp⟩ hN hf hU
    refine ev_sound tk _ _ _ ?_
    by_cases hm0 : 0 < m
    · have hpos : (0 : Int) < m := by omega
      have hlw := low_m s hs
      have hjn := join_ok hj (low_nz s)
      generalize hb : (low s).1 = b at hlw hjn
      generalize hs' : (low s).2 = s' at hlw
      obtain ⟨hz, hj'⟩ := hjn
      generalize hhi : (join hi lo b).1 = hi' at hz hj'
      generalize hlo : (join hi lo b).2 = lo' at hj'
      have hmin : (all.length + 1) * 24 ≤ 140737488355328 := by omega
      have hs2 : all.length + 1 ≤ maxLen := by simp [maxLen]; omega
      have hsok : s'.ok := hs' ▸ low_ok hs
      have hle : zeroB lo' = false → lessBr lo' hi' = true ∧ compat lo' hi' = false := by rw [lessBr_eq]; exact hj'.2.1
      have hpr : ∀ c ∈ all ++ [b], preparesR hi' lo' c = true := fun c hc => by rw [preparesR_eq]; exact hj'.2.2 c hc
      have hw : IntKind.i64.wrap ((m : Int) - 1) = ((m - 1 : Nat) : Int) := by rw [i64_in (by omega) (by omega)]; omega
      have hlen' : (all ++ [b]).length + (m - 1) ≤ 8 := by simp; omega
      have hne : all ++ [b] ≠ [] := by simp
      have hmap : List.map Ballot.cells all ++ [[I b.c, .str b.v]] = List.map Ballot.cells (all ++ [b]) := by simp [Ballot.cells]
      have hl1 : (all.length : Int) + 1 = ((all ++ [b]).length : Nat) := by simp
      generalize all ++ [b] = all' at hj' hpr hlen' hne hmap hl1
      have hl8 : all'.length ≤ 8 := by omega
      cases hzl : zeroB lo'
      all_goals
        simp [e3, e4, e5, e6, e7, H2, H4, H5, H6, hN, hpos, hlw, hhi, hlo, hmin, hs2, hz, hzl, hle, hmap]
        refine ⟨fun _ => ?_, fun h => by omega⟩
        refine VS_loop [3, 4, 5, 6, 7, 50, 51, 52] 7 (fun m2 S => ∃ k : Nat, k ≤ all'.length ∧ m2 = all'.length - k ∧ S.env 3 = .ptr 2 1 0 ∧ S.env 4 = .ptr 4 1 0 ∧ S.env 5 = .ptr 5 1 0 ∧ S.env 6 = .own 6 (ver + 1) ∧ S.env 7 = I m
          ∧ S.env 50 = .own 6 (ver + 1) ∧ S.env 51 = I all'.length ∧ S.env 52 = I k ∧ S.H 2 = ⟨1, .box [.sl (s'.l.map ofI), I s'.k]⟩ ∧ S.H 4 = ⟨1, .box [I hi'.c, .str hi'.v]⟩ ∧ S.H 5 = ⟨1, .box [I lo'.c, .str lo'.v]⟩
          ∧ S.H 6 = ⟨ver + 1, .row 29 2 (all'.map Ballot.cells)⟩) all'.length ?_ ?_ ?_
        · simp [e3, e4, e5, e6, e7, H2, H4, H5, H6, hU]
          exact fun a _ => by simp [Ballot.cells]
        · exact ⟨0, by simp [e3, e4, e5, e6, e7, H2, H4, H5, H6]⟩
        · rintro m2 S2 ⟨k, hk, rfl, f3, f4, f5, f6, f7, f50, f51, f52, G2, G4, G5, G6⟩ hN2 hf2 hU2
          refine ev_sound tk _ _ _ ?_
          by_cases hlt : k < all'.length
          · have hw2 : IntKind.i64.wrap ((k : Int) + 1) = (k : Int) + 1 := i64_in (by omega) (by omega)
            have hp := hpr _ (List.getElem_mem hlt)
            simp [f3, f4, f5, f6, f7, f50, f51, f52, G2, G4, G5, G6, hN2, hlt, hw2, hU2, Ballot.cells, hp]
            exact ⟨all'.length - (k + 1), by omega, k + 1, by omega, rfl, by simp⟩
          · simp [f3, f4, f5, f6, f7, f50, f51, f52, G2, G4, G5, G6, hN2, hlt, hw, hU2]
            exact ⟨fun x _ => by simp [Ballot.cells], m - 1, by omega, s', hsok, rfl, ⟨rfl, rfl⟩, hi', ⟨rfl, rfl⟩, lo', ⟨rfl, rfl⟩, all', rfl, hj', hlen', fun h => absurd h hne⟩
    · have : m = 0 := by omega
      subst this
      cases all with
      | nil => simp [e3, e4, e5, e6, e7, H2, H4, H5, H6, hN, sane25_m, hemp]
      | cons c all => simp [e3, e4, e5, e6, e7, H2, H4, H5, H6, hN, sane25_m]
end Go.Proofs.Ytncjalhhkmojlaa
