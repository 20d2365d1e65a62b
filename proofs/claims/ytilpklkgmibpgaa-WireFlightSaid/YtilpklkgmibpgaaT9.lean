import Derived.Test.YtilpklkgmibpgaaT8
import Derived.Test.YtilpklkgmibpgaaAb15
namespace Go.Proofs.Ytilpklkgmibpgaa
open Go.Ab
set_option linter.unusedVariables false

/-- A slice of whole numbers that came in, told by value. -/
theorem isRow_rel {w : World} {a : Option Addr} {len cap : Nat} {zs : List Int} (h : (a = none ∧ len = 0 ∧ cap = 0 ∧ zs = []) ∨ ∃ x, a = some x ∧ len ≤ cap ∧ cap ≤ maxLen ∧ zs.length = cap ∧ (∀ i, i < zs.length → w.cell? (x.add i) = some (.int .i64 (zs.getD i 0))) ∧ ∀ n ∈ zs, (Lit.int .i64 n).wf = true) : VRel (env0 w) (.sl ((zs.take len).map intRow)) (.slice a len cap) := by
  rcases h with ⟨rfl, rfl, rfl, rfl⟩ | ⟨x, rfl, hl, hm, hz, hc, hw⟩
  · exact ⟨none, 0, rfl, Nat.le_refl _, .inl ⟨rfl, fun _ => rfl⟩⟩
  · have hlen : ((zs.take len).map intRow).length = len := by simp; omega
    refine ⟨some x, cap, by rw [hlen], by rw [hlen]; exact hl, ?_⟩
    by_cases h0 : len = 0
    · left; subst h0; exact ⟨by simp, fun e => by cases e⟩
    · right
      obtain ⟨b, off, spot⟩ := x
      have hs : spot = none := by
        have h1 := hc 0 (by omega)
        cases spot with
        | none => rfl
        | some s =>
          exfalso
          cases hh : w.heap[b]? with
          | none => simp [World.cell?, Addr.add, hh] at h1
          | some o => cases o <;> simp [World.cell?, Addr.add, hh] at h1
      subst hs
      have hb : b < w.heap.size := by
        have := hc 0 (by omega)
        exact World.block_lt_of_cell? _ _ this
      refine ⟨b, off, 1, rfl, hb, (fun ho => by obtain ⟨n, o, e, _⟩ := ho; cases e), RowsAt.of_get fun i r hi => ?_⟩
      rw [List.getElem?_map] at hi
      cases hq : (zs.take len)[i]? with
      | none => rw [hq] at hi; cases hi
      | some z =>
        rw [hq] at hi
        cases hi
        refine ⟨rfl, ⟨_, ?_, rfl⟩, trivial⟩
        have hi' : i < len := by
          have := (List.getElem?_eq_some_iff.1 hq).1
          simp at this; omega
        rw [List.getElem?_take, if_pos hi'] at hq
        have := hc i (by omega)
        rw [Addr.add_lit] at this
        simpa [env0, List.getD, hq] using this
end Go.Proofs.Ytilpklkgmibpgaa
