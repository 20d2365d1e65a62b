import Derived.Test.YtilpklkgmibpgaaAb14
import Derived.Test.YtilpklkgmibpgaaTt
namespace Go.Proofs.Ytilpklkgmibpgaa
open Go.Ab
set_option maxHeartbeats 400000
attribute [local simp] tt3 tt4 tt9 tt22 tt24 tt30 tt31 tt36 tt42 tt55 tt57 tt63

def within (a n : Int) : Int := if a.tmod n < 0 then a.tmod n + n else a.tmod n
theorem tmod_bounds (a : Int) {n : Int} (hn : 0 < n) : -n < a.tmod n ∧ a.tmod n < n := by
  have h1 := Int.tmod_lt_of_pos a hn
  have h2 := Int.lt_tmod_of_pos a hn
  omega

theorem call_within {a n : Int} {σ : Nat → Option AO} (hn : 0 < n) (hn2 : n ≤ 1000) : CallA Try.prog 15 [.int .i64 a, .int .i64 n] σ [] fun x σ' => x = .int .i64 (within a n) ∧ σ' = σ := by
  have hb := tmod_bounds a hn
  have hn0 : ¬ n = 0 := by omega
  refine CallA.of ttok Try.func15 rfl (show 2 ≤ 15 by decide) fun c hF => ?_
  have hσ := cutσ_self fun n hn => (hF.good.2 n hn : σ n = none)
  refine Tri.seqX ttok rfl (by simp; rfl) ?_
  refine Tri.seqX ttok rfl (by simp [hn0]; rfl) ?_
  refine Tri.seq (Tri.seqX ttok rfl (by simp; rfl) ?_)
  refine Tri.cond (by simp; rfl) (fun h => ?_) (fun h => ?_)
  · have h := of_decide_eq_true h
    refine Tri.x ttok rfl (by simp; rfl) ?_
    refine Tri.seqX ttok rfl (by simp; rfl) ?_
    refine Tri.ret (fnPost.tmp (.inr rfl) rfl rfl (by simp; rfl) (by exact True.intro) (Stays.refl _ _) ⟨?_, ?_⟩)
    · simp [within, h]; rw [wrap_id (by omega) (by omega)]
    · simpa using hσ
  · have h := of_decide_eq_false h
    refine Tri.skip ?_
    refine Tri.seqX ttok rfl (by simp; rfl) ?_
    refine Tri.ret (fnPost.tmp (.inr rfl) rfl rfl (by simp; rfl) (by exact True.intro) (Stays.refl _ _) ⟨?_, ?_⟩)
    · simp [within, h]
    · simpa using hσ
end Go.Proofs.Ytilpklkgmibpgaa
