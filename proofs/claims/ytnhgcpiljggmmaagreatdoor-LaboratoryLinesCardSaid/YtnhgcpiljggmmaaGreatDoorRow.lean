/-
  From a contract to the walk that a row's frame asks for. Conditions: none (generic in the program).
-/
import Derived.Test.YtnhgcpiljggmmaaGreatDoorFun
import Derived.Below
namespace Go.TQ
open Go.RowKit
theorem rep_ints {w : World} {M : Nat → Prop} {G : Gh} {a : Option Addr} {len cap : Nat} {zs : List Int} (hM : ∀ b, ¬ M b)
    (h : (a = none ∧ len = 0 ∧ cap = 0 ∧ zs = []) ∨ ∃ x, a = some x ∧ len ≤ cap ∧ cap ≤ maxLen ∧ zs.length = cap ∧ (∀ i, i < zs.length → w.cell? (x.add i) = some (.int .i64 (zs.getD i 0))) ∧ ∀ n ∈ zs, (Lit.int .i64 n).wf = true) :
    Rep w M G (.sl ((zs.take len).map fun n => [.int .i64 n])) (.slice a len cap) := by
  rcases h with ⟨rfl, rfl, rfl, rfl⟩ | ⟨x, rfl, h1, h2, h3, h4, _⟩
  · exact .slnil
  · have hfl : ∀ l : List Int, (l.map fun n => [PV.int .i64 n]).flatten = l.map fun n => .int .i64 n := by
      intro l
      induction l with
      | nil => rfl
      | cons n l ih => simp only [List.map_cons, List.flatten_cons, ih]; rfl
    have hlen : ((zs.take len).map fun n => [PV.int .i64 n]).length = len := by simp; omega
    have := Rep.sl (w := w) (M := M) (G := G) ((zs.take len).map fun n => [.int .i64 n]) x cap 1 ((zs.take len).map fun n => .int .i64 n) (fun e he => by obtain ⟨n, _, rfl⟩ := List.mem_map.1 he; rfl) (by rw [hfl]; simp)
      (fun i v hv => ?_) (fun i y v hy hv => ?_) (by rw [hlen]; exact h1) h2
    · rw [hlen] at this
      exact this
    · refine ⟨?_, hM _⟩
      rw [List.getElem?_map, Option.map_eq_some_iff] at hv
      obtain ⟨n, hn, rfl⟩ := hv
      rw [List.getElem?_take] at hn
      split at hn
      · have hi : i < zs.length := (List.getElem?_eq_some_iff.1 hn).1
        rw [h4 i hi, List.getD_eq_getElem?_getD, hn]
        rfl
      · cases hn
    · rw [hfl] at hy
      rw [List.getElem?_map] at hy hv
      rw [Option.map_eq_some_iff] at hy hv
      obtain ⟨n, hn, rfl⟩ := hy
      obtain ⟨n', hn', rfl⟩ := hv
      rw [hn] at hn'
      injection hn' with e
      subst e
      exact .int _ _
theorem law_calls {P : Program} {f : FuncId} {args : List PV} {vs : List Value} {w : World} (hG : GI w) (h : Con P f false [] args (.bool true) []) (hr : RepL w (fun _ => False) Gh0 args vs) :
    Calls P f vs.toArray w fun e w' => e = .returned (.bool true) ∧ Below w.heap.size w w' := by
  refine (h w (fun _ => False) (.nil hG) 0 0 [] vs (fun hq => by cases hq) ?_).mono ?_
  · exact ⟨hr.1, fun i x v hx hv => (hr.2 i x v hx hv).mono (Stays.of fun _ _ => fun hq => by rcases hq with ⟨hq, _⟩ | hq; cases hq; exact hq) (Gh.le.refl _)⟩
  · rintro e w' ⟨v, _, rfl, hv, _, hF⟩
    refine ⟨by rw [hv.bool_inv], hF.os, hF.tape, hF.output, hF.size, fun k hk => hF.block k hk (by simp)⟩
end Go.TQ
