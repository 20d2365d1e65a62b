import Derived.Test.YtilpklkgmibpgaaT4
namespace Go.Proofs.Ytilpklkgmibpgaa
open Go.Ab
set_option maxHeartbeats 400000
set_option linter.unusedVariables false
set_option linter.unusedSimpArgs false
attribute [local simp] tt3 tt4 tt9 tt22 tt24 tt30 tt31 tt36 tt42 tt55 tt57 tt63
attribute [local simp] eqA sliceEq rowsA fillR appendA AV.lt mapElem lookupA mapPutA mapDelA mapClearA lenA sliceA indexA nth buildA fillA placesA TI.zv

def hasO (w : Wire) (k : Int) : Bool := w.opens.any fun p => p.1 = k
def askW (w : Wire) (e : Ev) : Wire := if hasO w e.key then w else { w with opens := w.opens ++ [(e.key, ⟨e.name, w.clock + 1, 1⟩)], flight := w.flight ++ [⟨false, ⟨e.name, e.key, 0⟩⟩] }
theorem putM_miss_open {k : Int} {x : AV} : ∀ {es : List (Int × AV)}, fnd k es = none → putM k x es = es ++ [(k, x)]
  | [], _ => rfl
  | (k', y) :: es, h => by
    simp only [fnd] at h
    split at h
    · cases h
    · rename_i hk
      have : fnd k es = none := by cases hq : fnd k es with | none => rfl | some q => rw [hq] at h; cases h
      simp [putM, hk, putM_miss_open this]

theorem fnd_ask {k : Int} {j : Nat} {y : AV} : ∀ {l : List (Int × Asking)}, fnd k (l.map fun p => (p.1, askAV p.2)) = some (j, y) → ∃ a, y = askAV a
  | [], h => by cases h
  | p :: l, h => by
    simp only [List.map_cons, fnd] at h
    split at h
    · cases h; exact ⟨_, rfl⟩
    · cases hq : fnd k (l.map fun p => (p.1, askAV p.2)) with
      | none => rw [hq] at h; cases h
      | some q =>
        obtain ⟨j', y'⟩ := q
        rw [hq] at h
        cases h
        exact fnd_ask hq
theorem call_ask17 {σ : Nat → Option AO} {N M K : Nat} {w : Wire} {e : Ev} (hw : IsW σ N M K w) (hfl : w.flight.length < 900000) :
    CallA Try.prog 17 [.ptr N 0, evAV e] σ [] fun x σ' => x = .tup [] ∧ σ' = putW σ N M K (askW w e) := by
  refine CallA.of ttok Try.func17 rfl (show 2 ≤ 38 by decide) fun c hF => ?_
  have hσ : cutσ c σ = σ := cutσ_self fun n hn => (hF.good.2 n hn : σ n = none)
  have hn := hw.n
  have hm := hw.m
  have hNc : N < c := (hF.σ N _ hn).1
  have hMc : M < c := (hF.σ M _ hw.m).1
  have hKc : K < c := (hF.σ K _ hw.k).1
  have ne1 : N ≠ c := by omega
  have ne2 : N ≠ c + 1 := by omega
  have ne3 : M ≠ c := by omega
  have ne4 : M ≠ c + 1 := by omega
  have ne5 : M ≠ N := hw.ne.symm
  have hsome := fnd_open e.key w.opens
  refine Tri.fresh (Tri.fresh ?_)
  refine Tri.seq (Tri.region ttok rfl ?_)
  refine OpsA.new c rfl (by simp [evAV] <;> rfl) (by simp) (by simp <;> rfl) ?_
  refine OpsA.nil ?_
  refine Tri.seq (Tri.seqD ttok mix [0, 1, 2, 4, 3, 5, 6, 7, 8, 9, 10, 11, 12] (by kernel_rfl) rfl ?_)
  simp only [List.filterMap, List.map]
  cases hq : fnd e.key (openEs w) with
  | some q =>
    obtain ⟨j, y⟩ := q
    have hh : hasO w e.key = true := by rw [openEs] at hq; rw [hq] at hsome; simpa [hasO] using hsome.symm
    have hy : ∃ a, y = askAV a := fnd_ask hq
    obtain ⟨a, rfl⟩ := hy
    refine OpsA.all (by simp [hn, hm, wireCells, ne1, ne2, ne3, ne4, hq, askAV] <;> rfl) ?_
    refine Tri.seqX ttok rfl (by simp <;> rfl) ?_
    refine Tri.cond (by simp <;> rfl) (fun h => ?_) (fun h => by cases h)
    refine Tri.ret ?_
    refine fnPost.none (.inr rfl) rfl rfl ?_ ⟨rfl, ?_⟩
    · simp; exact (Stays.new (Nat.le_succ _) (Stays.new (Nat.le_refl _) (Stays.refl _ _)))
    · simp [cutσ_new, hσ, askW, hh, hw.self]
  | none =>
    have hh : hasO w e.key = false := by rw [openEs] at hq; rw [hq] at hsome; simpa [hasO] using hsome.symm
    refine OpsA.all (by simp [hn, hm, wireCells, ne1, ne2, ne3, ne4, hq, askAV] <;> rfl) ?_
    refine Tri.seqX ttok rfl (by simp <;> rfl) ?_
    refine Tri.cond (by simp <;> rfl) (fun h => by cases h) (fun h => ?_)
    refine Tri.skip ?_
    refine Tri.seqD ttok mix [0, 1, 2, 4, 6, 8, 9, 10, 3, 5, 7, 11, 12, 13, 14] (by kernel_rfl) rfl ?_
    simp only [List.filterMap, List.map]
    have hwr : IntKind.i64.wrap (w.clock + 1) = w.clock + 1 := wrap_id (by have := hw.clock; omega) (by have := hw.clock; omega)
    refine OpsA.all (by simp [hn, hm, wireCells, ne1, ne2, ne3, ne4, hq, hwr, putM_miss_open hq] <;> rfl) ?_
    refine Tri.region ttok rfl ?_
    refine OpsA.runX 6 (by simp [hn, hm, wireCells, ne1, ne2, ne3, ne4, ne5, ne3.symm, ne1.symm, ne2.symm, ne4.symm, hq, hwr, putM_miss_open hq] <;> rfl) ?_
    simp only [List.drop]
    have hw1 : ∀ σ1 : Nat → Option AO, σ1 N = some (.cells 57 (wireCells w M K)) → σ1 M = some (.imap (openEs { w with opens := w.opens ++ [(e.key, ⟨e.name, w.clock + 1, 1⟩)] })) → σ1 K = some (.arr 30 3 w.gen (w.applied.map evRow)) → IsW σ1 N M K { w with opens := w.opens ++ [(e.key, ⟨e.name, w.clock + 1, 1⟩)] } := fun σ1 q1 q2 q3 =>
      ⟨q1, q2, q3, hw.vs, hw.fl, hw.ap, hw.clock⟩
    refine OpsA.call (call_fly37 (b := false) (e := ⟨e.name, e.key, 0⟩) (hw1 _ ?_ ?_ ?_)) rfl (by simp [evAV] <;> rfl) (by kernel_rfl) (by simp) rfl ?_
    · simp [ne1, ne2, ne5.symm, hn, wireCells]
    · simp [openEs, askAV]
    · simp [hw.neMK.symm, show K ≠ c by omega, show K ≠ c + 1 by omega, hw.k]
    rintro x σ' ⟨rfl, rfl⟩
    refine OpsA.nil ?_
    refine fnPost.none (.inl rfl) rfl (by rfl) ?_ ⟨rfl, ?_⟩
    · simp only [σ_put, σ_with, putW]
      exact Stays.old (lt_wire _ hMc hKc) (Stays.old (lt_open c _) (Stays.old (lt_appl c _) (Stays.old (x := .imap _) (by have := lt_open c { w with opens := w.opens ++ [(e.key, ⟨e.name, w.clock + 1, 1⟩)] }; simpa [openEs, askAV] using this) (Stays.new (Nat.le_succ _) (Stays.new (Nat.le_refl _) (Stays.refl _ _))))))
    · simp only [σ_put, σ_with]
      rw [putW_updM hw.neMK, cut_putW hNc hMc hKc, cutσ_new _ (by omega), cutσ_new _ (by omega), hσ]
      simp [askW, hh]
end Go.Proofs.Ytilpklkgmibpgaa
