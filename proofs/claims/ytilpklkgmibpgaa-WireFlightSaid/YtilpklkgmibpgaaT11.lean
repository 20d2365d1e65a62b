import Derived.Test.YtilpklkgmibpgaaT9
import Derived.Test.YtilpklkgmibpgaaPl2
namespace Go.Proofs.Ytilpklkgmibpgaa
open Go.Ab
set_option maxHeartbeats 400000
set_option linter.unusedVariables false
set_option linter.unusedSimpArgs false
attribute [local simp] tt3 tt4 tt9 tt22 tt24 tt30 tt31 tt36 tt42 tt55 tt57 tt63
attribute [local simp] AV.lt

theorem call_keys36 {σ : Nat → Option AO} {B M : Nat} (hM : σ M ≠ none) : CallA Try.prog 36 [.map M] σ [B] fun x σ' => x = .fn (.func 54) [] [.ptr B 0] ∧ σ' = upd σ B (some (.cells 55 [.map M])) := by
  refine CallA.of ttok Try.func36 rfl (show 1 ≤ 4 by decide) fun c hF => ?_
  have hσ : cutσ c σ = σ := cutσ_self fun n hn => (hF.good.2 n hn : σ n = none)
  have hBc : B < c := hF.fr B (by simp [startA])
  have hMc : M < c := hF.t 0
  refine Tri.seq (Tri.region ttok rfl ?_)
  refine OpsA.new B rfl (by simp <;> rfl) (by simp) rfl ?_
  refine OpsA.all (by simp <;> rfl) ?_
  refine Tri.seqX ttok rfl (by simp <;> rfl) ?_
  refine Tri.ret (fnPost.tmp (.inr rfl) rfl (by rfl) (by simp <;> rfl) (by exact ⟨trivial, hBc, trivial⟩) ?_ ⟨rfl, ?_⟩)
  · simp; exact Stays.old (x := .cells 55 [.map M]) ⟨hMc, trivial⟩ (Stays.refl _ _)
  · simp [cutσ_old, hBc, hσ]
end Go.Proofs.Ytilpklkgmibpgaa
