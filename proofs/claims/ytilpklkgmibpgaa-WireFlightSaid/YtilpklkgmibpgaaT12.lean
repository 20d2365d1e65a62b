import Derived.Test.YtilpklkgmibpgaaT9
import Derived.Shelf.SlIterI.Nil
namespace Go.Proofs.Ytilpklkgmibpgaa
open Go.Ab Go.Maps
set_option maxHeartbeats 400000
set_option linter.unusedVariables false
set_option linter.unusedSimpArgs false

/-- Every value of a map reads as one datum: only its keys are told. -/
def anyR : Value → Option (DataW Unit × List MemPlace) := fun _ => some (.lit (.bool true), [])
theorem ERel.keys {R : Env} : ∀ {es : List (Int × AV)} {ents : List MapEntry}, ERel R es ents → ents.map (·.key) = es.map fun p => Value.int .i64 p.1
  | [], _, h => by rw [show _ = _ from h]; rfl
  | (k, x) :: es, _, h => by obtain ⟨v, c, es', rfl, _, h⟩ := h; simp [ERel.keys h]
theorem wf_i64 {z : Int} (h : -9223372036854775808 ≤ z ∧ z ≤ 9223372036854775807) : (Lit.int .i64 z).wf = true := by
  have h1 : decide (IntKind.min .i64 ≤ z) = true := decide_eq_true (show (-9223372036854775808 : Int) ≤ z from h.1)
  have h2 : decide (z ≤ IntKind.max .i64) = true := decide_eq_true (show z ≤ (9223372036854775807 : Int) from h.2)
  show (decide (IntKind.min .i64 ≤ z) && decide (z ≤ IntKind.max .i64)) = true
  rw [h1, h2]; rfl
theorem ownsMap_of {P : Program} {K : TypeId} (hK : P.underlying K = some (.int .i64)) {R : Env} {M : Nat} {es : List (Int × AV)} (h : ORel R M (.imap es)) (hnd : (es.map (·.1)).Nodup) (hwf : ∀ p ∈ es, -9223372036854775808 ≤ p.1 ∧ p.1 ≤ 9223372036854775807) (hlen : es.length ≤ maxLen) :
    ∃ b D, R.φ M = .blk b ∧ R.w.ownsMap P K anyR b es.length D ∧ (intKeys D).Perm (es.map (·.1)) ∧ Maps.size D = es.length := by
  obtain ⟨b, ents, clock, h1, h2, h3, h4⟩ := h
  have hk := ERel.keys h4
  have hl : ents.toList.length = es.length := by have := congrArg List.length hk; simpa using this
  have hrd : ∀ x ∈ ents.toList, ∃ z, x.key = .int .i64 z ∧ z ∈ es.map (·.1) ∧ WideElems.rd P K anyR x = some (.int .i64 z, .lit (.bool true)) := fun x hx => by
    have : x.key ∈ ents.toList.map (·.key) := List.mem_map_of_mem hx
    rw [hk, List.mem_map] at this
    obtain ⟨p, hp, e⟩ := this
    refine ⟨p.1, e.symm, List.mem_map_of_mem hp, ?_⟩
    obtain ⟨key, val, born⟩ := x
    obtain rfl : _ = key := e
    exact WideElems.rd_mk (yv := (.lit (.bool true), [])) (Maps.keyOf_int_mk hK (wf_i64 (hwf p hp))) rfl
  refine ⟨b, _, h1, ⟨ents, clock, h2, ⟨by simpa using (show ents.toList.length ≤ maxLen by omega), ⟨h3.2, h3.1.imp (fun h => Nat.ne_of_lt h), ?_⟩, fun x hx => by obtain ⟨z, _, _, e⟩ := hrd x hx; exact ⟨_, e⟩⟩, by simpa using Nat.le_of_eq hl, rfl⟩, ?_, ?_⟩
  · rw [hk]
    exact List.Pairwise.map _ (fun p q hne e => hne (by simpa using e)) (List.pairwise_map.1 hnd)
  · show (((ents.toList.map (WideElems.rg P K anyR)).foldr DataW.insert []).map fun p => intOf p.1).Perm _
    refine ((WideShapes.sorted_perm _).map _).trans (List.Perm.of_eq ?_)
    rw [List.map_map]
    have : ents.toList.map ((fun p => intOf p.1) ∘ WideElems.rg P K anyR) = ents.toList.map fun x => match x.key with | .int _ z => z | _ => 0 := List.map_congr_left fun x hx => by
      obtain ⟨z, e1, _, e2⟩ := hrd x hx
      simp [WideElems.rg_of e2, e1, intOf]
    rw [this]
    have := congrArg (List.map fun v => match v with | .int _ z => z | _ => (0 : Int)) hk
    simpa [List.map_map, Function.comp_def] using this
  · show ((ents.toList.map (WideElems.rg P K anyR)).foldr DataW.insert []).length = _
    rw [(WideShapes.sorted_perm _).length_eq]
    simpa using hl
end Go.Proofs.Ytilpklkgmibpgaa
