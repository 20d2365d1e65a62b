import Derived.Test.YtilpklkgmibpgaaT13
namespace Go.Proofs.Ytilpklkgmibpgaa
open Go.Ab
set_option maxHeartbeats 400000
set_option linter.unusedVariables false
set_option linter.unusedSimpArgs false
attribute [local simp] tt3 tt4 tt9 tt22 tt24 tt30 tt31 tt36 tt42 tt55 tt57 tt63
attribute [local simp] eqA sliceEq rowsA fillR appendA AV.lt mapElem lookupA mapPutA mapDelA mapClearA lenA sliceA indexA nth buildA fillA placesA TI.zv nilEq
attribute [local simp] List.filter_cons

theorem call_known13 : CallA Try.prog 13 [] (fun _ => none) [] fun x σ' => x = .bool true ∧ σ' = fun _ => none := by
  refine CallA.of ttok Try.func13 rfl (Nat.zero_le _) fun c hF => ?_
  refine Tri.fresh (Tri.fresh (Tri.fresh (Tri.fresh (Tri.fresh ?_))))
  refine Tri.seqX ttok rfl (by simp <;> rfl) ?_
  refine Tri.seqR ttok rfl ?_
  refine OpsA.runX 1 (by simp <;> rfl) ?_
  simp only [List.drop]
  refine OpsA.call (call_new14 (N := c + 4) (M := c + 3) (K := c + 2) (vs := [7]) (by simp) (by omega) (by omega) (by omega)) rfl (by simp [intRow] <;> rfl) (by kernel_rfl) (by simp) rfl ?_
  rintro x σ1 ⟨rfl, rfl⟩
  refine OpsA.all (by simp <;> rfl) ?_
  have nm : c + 4 ≠ c + 3 := by omega
  have nk : c + 4 ≠ c + 2 := by omega
  have mk : c + 3 ≠ c + 2 := by omega
  have hw0 : IsW (putW (fun _ => none) (c + 4) (c + 3) (c + 2) ⟨[7], 0, [], [], [], 0⟩) (c + 4) (c + 3) (c + 2) ⟨[7], 0, [], [], [], 0⟩ := IsW.put nm nk mk (by simp) (by simp) (by simp) ⟨by simp, by simp⟩
  refine Tri.seq (Tri.seqR ttok rfl ?_)
  refine OpsA.runX 3 (by simp [binA] <;> rfl) ?_
  simp only [List.drop]
  refine OpsA.runG 1 (by simp <;> rfl) ?_
  simp only [List.drop]
  refine OpsA.guard rfl rfl (by simp <;> rfl) (fun _ => ?_) (fun h => absurd rfl h)
  refine OpsA.call (call_flight18 hw0) rfl (by simp <;> rfl) (by kernel_rfl) (by simp) rfl ?_
  rintro x σ2 ⟨rfl, rfl⟩
  refine OpsA.allG (by simp <;> rfl) ?_
  refine Tri.cond (b := false) (by simp) (fun h => by cases h) (fun h => ?_)
  refine Tri.skip ?_
  refine Tri.seqR ttok rfl ?_
  refine OpsA.runX 2 (by simp <;> rfl) ?_
  simp only [List.drop]
  refine OpsA.call (call_ask17 (e := ⟨[112, 97, 121], 3, 0⟩) hw0 (by simp)) rfl (by simp [evAV] <;> rfl) (by kernel_rfl) (by simp) rfl ?_
  rintro x σ3 ⟨rfl, rfl⟩
  refine OpsA.nil ?_
  have e1 : askW ⟨[7], 0, [], [], [], 0⟩ ⟨[112, 97, 121], 3, 0⟩ = ⟨[7], 0, [(3, ⟨[112, 97, 121], 1, 1⟩)], [⟨false, ⟨[112, 97, 121], 3, 0⟩⟩], [], 0⟩ := rfl
  rw [e1]
  simp only [σ_put, σ_with, fr_put, fr_with, putW_put nm nk mk]
  have hw1 : IsW (putW (fun _ => none) (c + 4) (c + 3) (c + 2) ⟨[7], 0, [(3, ⟨[112, 97, 121], 1, 1⟩)], [⟨false, ⟨[112, 97, 121], 3, 0⟩⟩], [], 0⟩) (c + 4) (c + 3) (c + 2) ⟨[7], 0, [(3, ⟨[112, 97, 121], 1, 1⟩)], [⟨false, ⟨[112, 97, 121], 3, 0⟩⟩], [], 0⟩ := IsW.put nm nk mk (by simp) (by simp) (by simp) ⟨by simp, by simp⟩
  have e2 : deliverW ⟨[7], 0, [(3, ⟨[112, 97, 121], 1, 1⟩)], [⟨false, ⟨[112, 97, 121], 3, 0⟩⟩], [], 0⟩ 0 = ((⟨[], 0, 0⟩, false), ⟨[7], 0, [(3, ⟨[112, 97, 121], 1, 1⟩)], [⟨true, ⟨[112, 97, 121], 3, 7⟩⟩], [⟨[112, 97, 121], 3, 7⟩], 1⟩) := rfl
  refine Tri.seqR ttok rfl ?_
  refine OpsA.runX 1 (by simp <;> rfl) ?_
  simp only [List.drop]
  refine OpsA.call (call_deliver19 (i := 0) hw1 (by simp) (by simp)) rfl (by simp <;> rfl) (by kernel_rfl) (by simp) rfl ?_
  rintro x σ4 ⟨rfl, rfl⟩
  rw [e2]
  simp only [σ_put, σ_with, fr_put, fr_with, putW_put nm nk mk]
  have a1 := fun (w' : Wire) => putW_other (σ := fun _ => none) (w' := w') (show c + 1 ≠ c + 4 by omega) (show c + 1 ≠ c + 3 by omega) (show c + 1 ≠ c + 2 by omega)
  refine OpsA.all (by simp [evAV, a1] <;> rfl) ?_
  have u1 := fun (σ' : Nat → Option AO) (w' : Wire) (x : Option AO) => putW_upd (σ := σ') (w' := w') (x := x) (show c + 1 ≠ c + 4 by omega) (show c + 1 ≠ c + 3 by omega) (show c + 1 ≠ c + 2 by omega)
  have u0 := fun (σ' : Nat → Option AO) (w' : Wire) (x : Option AO) => putW_upd (σ := σ') (w' := w') (x := x) (show c ≠ c + 4 by omega) (show c ≠ c + 3 by omega) (show c ≠ c + 2 by omega)
  have e3 : deliverW ⟨[7], 0, [(3, ⟨[112, 97, 121], 1, 1⟩)], [⟨true, ⟨[112, 97, 121], 3, 7⟩⟩], [⟨[112, 97, 121], 3, 7⟩], 1⟩ 0 = ((⟨[112, 97, 121], 3, 7⟩, true), ⟨[7], 0, [], [], [⟨[112, 97, 121], 3, 7⟩], 1⟩) := rfl
  have hw2 : ∀ σ', IsW (putW σ' (c + 4) (c + 3) (c + 2) ⟨[7], 0, [(3, ⟨[112, 97, 121], 1, 1⟩)], [⟨true, ⟨[112, 97, 121], 3, 7⟩⟩], [⟨[112, 97, 121], 3, 7⟩], 1⟩) (c + 4) (c + 3) (c + 2) ⟨[7], 0, [(3, ⟨[112, 97, 121], 1, 1⟩)], [⟨true, ⟨[112, 97, 121], 3, 7⟩⟩], [⟨[112, 97, 121], 3, 7⟩], 1⟩ := fun σ' => IsW.put nm nk mk (by simp) (by simp) (by simp) ⟨by simp, by simp⟩
  have hw3 : ∀ σ', IsW (putW σ' (c + 4) (c + 3) (c + 2) ⟨[7], 0, [], [], [⟨[112, 97, 121], 3, 7⟩], 1⟩) (c + 4) (c + 3) (c + 2) ⟨[7], 0, [], [], [⟨[112, 97, 121], 3, 7⟩], 1⟩ := fun σ' => IsW.put nm nk mk (by simp) (by simp) (by simp) ⟨by simp, by simp⟩
  simp only [u1]
  refine Tri.seqR ttok rfl ?_
  refine OpsA.runX 1 (by simp <;> rfl) ?_
  simp only [List.drop]
  refine OpsA.call (call_deliver19 (i := 0) (hw2 _) (by simp) (by simp)) rfl (by simp <;> rfl) (by kernel_rfl) (by simp) rfl ?_
  rintro x σ5 ⟨rfl, rfl⟩
  rw [e3]
  simp only [σ_put, σ_with, fr_put, fr_with, putW_put nm nk mk]
  have a0 := fun (σ' : Nat → Option AO) (w' : Wire) => putW_other (σ := σ') (w' := w') (show c ≠ c + 4 by omega) (show c ≠ c + 3 by omega) (show c ≠ c + 2 by omega)
  have a1' := fun (σ' : Nat → Option AO) (w' : Wire) => putW_other (σ := σ') (w' := w') (show c + 1 ≠ c + 4 by omega) (show c + 1 ≠ c + 3 by omega) (show c + 1 ≠ c + 2 by omega)
  refine OpsA.all (by simp [evAV, a0, a1'] <;> rfl) ?_
  simp only [u0]
  refine Tri.seqR ttok rfl ?_
  refine OpsA.runG 17 (by simp [a0, a1', binA] <;> rfl) ?_
  simp only [List.drop]
  refine OpsA.guard rfl rfl (by simp <;> rfl) (fun _ => ?_) (fun h => absurd rfl h)
  refine OpsA.call (call_applied20 (hw3 _)) rfl (by simp <;> rfl) (by kernel_rfl) (by simp) rfl ?_
  rintro x σ6 ⟨rfl, rfl⟩
  refine OpsA.runG 5 (by simp <;> rfl) ?_
  simp only [List.drop]
  refine OpsA.guard rfl rfl (by simp <;> rfl) (fun _ => ?_) (fun h => absurd rfl h)
  refine OpsA.call (call_open16 (hw3 _) ⟨by simp, by simp, by simp⟩) rfl (by simp <;> rfl) (by kernel_rfl) (by simp) rfl ?_
  rintro x σ7 ⟨rfl, rfl⟩
  refine OpsA.allG (by simp [sortedKeys] <;> rfl) ?_
  refine Tri.ret (fnPost.tmp (.inr rfl) rfl (by rfl) (by simp <;> rfl) (by exact True.intro) ?_ ⟨rfl, ?_⟩)
  · simp only [σ_put, σ_with, putW]
    repeat (first | exact Stays.refl _ _ | refine Stays.new (by omega) ?_)
  · simp only [σ_put, σ_with, putW]
    repeat rw [cutσ_new _ (by omega)]
    exact cutσ_self fun _ _ => rfl
end Go.Proofs.Ytilpklkgmibpgaa
