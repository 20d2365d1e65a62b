import Derived.Test.YtilpklkgmibpgaaT24
namespace Go.Proofs.Ytilpklkgmibpgaa
open Go.Ab
set_option maxHeartbeats 400000
set_option linter.unusedVariables false
set_option linter.unusedSimpArgs false
attribute [local simp] tt3 tt4 tt9 tt22 tt24 tt30 tt31 tt36 tt42 tt55 tt57 tt63 tt71 tt72 tt74 tt77 tt81
attribute [local simp] eqA sliceEq rowsA fillR appendA AV.lt mapElem lookupA mapPutA mapDelA mapClearA lenA sliceA indexA nth buildA fillA placesA TI.zv nilEq fieldOfA
attribute [local simp] List.filter_cons


theorem isK_lt {o : List Opn} {key : Int} (h : isK o key = true) : findK o key < o.length := by
  unfold isK at h
  split at h
  · rename_i p hp; exact (List.getElem?_eq_some_iff.1 hp).1
  · cases h
def forgetX (x : RW) (key : Int) : RW := if isK x.o key then { x with o := x.o.eraseIdx (findK x.o key) } else x
def askX (x : RW) (e : Ev) : RW := if isK x.o e.key then x else
  { x with o := x.o.take (findK x.o e.key) ++ [⟨⟨e.name, e.key, 0⟩, x.clock + 1, 1⟩] ++ x.o.drop (findK x.o e.key), f := x.f ++ [⟨false, ⟨e.name, e.key, 0⟩⟩] }
theorem call_xforget45 {σ : Nat → Option AO} {X O F A : Nat} {x : RW} {g : Gens} (h : IsX σ X O F A x g) {key : Int} : CallA Try.prog 45 [.ptr X 0, .int .i64 key] σ [] fun r σ' => r = .tup [] ∧ ∃ g', σ' = putX σ X O F A (forgetX x key) g' := by
  refine CallA.of ttok Try.func45 rfl (show 2 ≤ 32 by decide) fun c hF => ?_
  have hσ : cutσ c σ = σ := cutσ_self fun n hn => (hF.good.2 n hn : σ n = none)
  have hn := h.n
  have ho := h.o
  have hf := h.f
  have ha := h.a
  have hXc : X < c := (hF.σ X _ h.n).1
  have hOc : O < c := (hF.σ O _ h.o).1
  have hFc : F < c := (hF.σ F _ h.f).1
  have hAc : A < c := (hF.σ A _ h.a).1
  have four := h.four
  have neXO := four.xo
  have neXF := four.xf
  have neXA := four.xa
  have neOF := four.of
  have neOA := four.oa
  have neFA := four.fa
  have neXO' := four.xo.symm
  have neXF' := four.xf.symm
  have neXA' := four.xa.symm
  have neOF' := four.of.symm
  have neOA' := four.oa.symm
  have neFA' := four.fa.symm
  have fin : ∀ (s σ1 : Nat → Option AO) (nx : RW) (ng : Gens), s = putX σ1 X O F A nx ng → Stays c σ σ1 → cutσ c σ1 = σ → Stays c σ s ∧ cutσ c s = putX σ X O F A nx ng := by
    rintro s σ1 nx ng rfl h1 h2
    exact ⟨Stays.putX hOc hFc hAc h1, by rw [cut_putX hXc hOc hFc hAc, h2]⟩
  refine Tri.seqR ttok rfl ?_
  refine OpsA.runX 2 (by simp -implicitDefEqProofs [hn, ho, hf, ha, xCells, neXO, neXF, neXA, neOF, neOA, neFA, neXO', neXF', neXA', neOF', neOA', neFA'] <;> rfl) ?_
  simp only [List.drop]
  refine OpsA.call (call_find51 h) rfl (by simp -implicitDefEqProofs [hn, ho, hf, ha, xCells, neXO, neXF, neXA, neOF, neOA, neFA, neXO', neXF', neXA', neOF', neOA', neFA'] <;> rfl) (by kernel_rfl) (by simp -implicitDefEqProofs) rfl ?_
  rintro x σ1 ⟨rfl, h1⟩
  obtain rfl := h1.symm
  clear h1
  cases his : isK x.o key
  · refine OpsA.all (by simp -implicitDefEqProofs [hn, ho, hf, ha, xCells, neXO, neXF, neXA, neOF, neOA, neFA, neXO', neXF', neXA', neOF', neOA', neFA', his] <;> rfl) ?_
    refine Tri.seqX ttok rfl (by simp -implicitDefEqProofs [hn, ho, hf, ha, xCells, neXO, neXF, neXA, neOF, neOA, neFA, neXO', neXF', neXA', neOF', neOA', neFA', his] <;> rfl) ?_
    refine Tri.cond (b := false) (by simp -implicitDefEqProofs [hn, ho, hf, ha, xCells, neXO, neXF, neXA, neOF, neOA, neFA, neXO', neXF', neXA', neOF', neOA', neFA', his]) (fun h => by cases h) (fun _ => ?_)
    refine Tri.skip ?_
    refine fnPost.none (.inl rfl) rfl rfl (by simp -implicitDefEqProofs; exact Stays.refl _ _) ⟨rfl, g, ?_⟩
    rw [show forgetX x key = x by simp -implicitDefEqProofs [forgetX, his], h.self]
    simpa using hσ
  · refine OpsA.all (by simp -implicitDefEqProofs [hn, ho, hf, ha, xCells, neXO, neXF, neXA, neOF, neOA, neFA, neXO', neXF', neXA', neOF', neOA', neFA', his] <;> rfl) ?_
    refine Tri.seqX ttok rfl (by simp -implicitDefEqProofs [hn, ho, hf, ha, xCells, neXO, neXF, neXA, neOF, neOA, neFA, neXO', neXF', neXA', neOF', neOA', neFA', his] <;> rfl) ?_
    refine Tri.cond (b := true) (by simp -implicitDefEqProofs [hn, ho, hf, ha, xCells, neXO, neXF, neXA, neOF, neOA, neFA, neXO', neXF', neXA', neOF', neOA', neFA', his]) (fun _ => ?_) (fun h => by cases h)
    have hk := isK_lt his
    obtain ⟨k, hkk⟩ : ∃ k, findK x.o key = k := ⟨_, rfl⟩
    simp only [hkk] at hk ⊢
    have hol := h.ol
    have nX : X ≠ c := by omega
    have nX' : c ≠ X := by omega
    have nO : O ≠ c := by omega
    have nO' : c ≠ O := by omega
    have b0 : k ≤ maxLen := by simp -implicitDefEqProofs [maxLen]; omega
    have b00 : 1 ≤ maxLen := by simp -implicitDefEqProofs [maxLen]
    have b1 : k * 48 ≤ 140737488355328 := by omega
    have hmin : min k x.o.length = k := by omega
    have e1 : IntKind.i64.wrap ((k : Int) + 1) = (k : Int) + 1 := wrap_id (by omega) (by omega)
    have hz : (0 : Int) ≤ (k : Int) + 1 := by omega
    have hz2 : ((k : Int) + 1).toNat = k + 1 := by omega
    have hcn : σ c = none := hF.good.2 c (Nat.le_refl _)
    have hkl : k ≤ x.o.length := by omega
    have hkl2 : k + 1 ≤ x.o.length := by omega
    have b2 : k + (x.o.length - (k + 1)) ≤ maxLen := by simp -implicitDefEqProofs [maxLen]; omega
    have b3 : (k + (x.o.length - (k + 1))) * 48 ≤ 140737488355328 := by omega
    have hsum : k + 1 + (x.o.length - (k + 1)) = x.o.length := by omega
    have hsrc : ((x.o.map opnRow).drop (k + 1)).take (x.o.length - (k + 1)) = (x.o.map opnRow).drop (k + 1) := List.take_of_length_le (by simp -implicitDefEqProofs)
    have hrw : (x.o.map opnRow).take k ++ (x.o.map opnRow).drop (k + 1) = (x.o.eraseIdx k).map opnRow := by rw [← List.map_take, ← List.map_drop, ← List.map_append, eraseIdx_eq]
    have hlen : k + (x.o.length - (k + 1)) = (x.o.eraseIdx k).length := by rw [List.length_eraseIdx, if_pos hk]; omega
    refine Tri.fresh ?_
    refine Tri.drawW ttok mix rfl ?_
    refine AnyW.take 0 rfl (by kernel_rfl) (by kernel_rfl) rfl (by simp -implicitDefEqProofs [hn, ho, hf, ha, xCells, neXO, neXF, neXA, neOF, neOA, neFA, neXO', neXF', neXA', neOF', neOA', neFA', his, hkk, hk, hmin, hkl, hkl2, b0, b1, b2, b3, e1, hz, hz2, hsum, hsrc, nX, nX', nO, nO', ok_opn x.o, sliceO, boundA, srcA] <;> rfl) ?_
    refine AnyW.take 2 rfl (by kernel_rfl) (by kernel_rfl) rfl (by simp -implicitDefEqProofs [hn, ho, hf, ha, xCells, neXO, neXF, neXA, neOF, neOA, neFA, neXO', neXF', neXA', neOF', neOA', neFA', his, hkk, hk, hmin, hkl, hkl2, b0, b1, b2, b3, e1, hz, hz2, hsum, hsrc, nX, nX', nO, nO', ok_opn x.o, sliceO, boundA, srcA] <;> rfl) ?_
    refine AnyW.take 3 rfl (by kernel_rfl) (by kernel_rfl) rfl (by simp -implicitDefEqProofs [hn, ho, hf, ha, xCells, neXO, neXF, neXA, neOF, neOA, neFA, neXO', neXF', neXA', neOF', neOA', neFA', his, hkk, hk, hmin, hkl, hkl2, b0, b1, b2, b3, e1, hz, hz2, hsum, hsrc, nX, nX', nO, nO', ok_opn x.o, sliceO, boundA, srcA] <;> rfl) ?_
    refine AnyW.take 4 rfl (by kernel_rfl) (by kernel_rfl) rfl (by simp -implicitDefEqProofs [hn, ho, hf, ha, xCells, neXO, neXF, neXA, neOF, neOA, neFA, neXO', neXF', neXA', neOF', neOA', neFA', his, hkk, hk, hmin, hkl, hkl2, b0, b1, b2, b3, e1, hz, hz2, hsum, hsrc, nX, nX', nO, nO', ok_opn x.o, sliceO, boundA, srcA] <;> rfl) ?_
    refine AnyW.take 6 rfl (by kernel_rfl) (by kernel_rfl) rfl (by simp -implicitDefEqProofs [hn, ho, hf, ha, xCells, neXO, neXF, neXA, neOF, neOA, neFA, neXO', neXF', neXA', neOF', neOA', neFA', his, hkk, hk, hmin, hkl, hkl2, b0, b1, b2, b3, e1, hz, hz2, hsum, hsrc, nX, nX', nO, nO', ok_opn x.o, sliceO, boundA, srcA] <;> rfl) ?_
    refine AnyW.take 9 rfl (by kernel_rfl) (by kernel_rfl) rfl (by simp -implicitDefEqProofs [hn, ho, hf, ha, xCells, neXO, neXF, neXA, neOF, neOA, neFA, neXO', neXF', neXA', neOF', neOA', neFA', his, hkk, hk, hmin, hkl, hkl2, b0, b1, b2, b3, e1, hz, hz2, hsum, hsrc, nX, nX', nO, nO', ok_opn x.o, sliceO, boundA, srcA] <;> rfl) ?_
    refine AnyW.take 10 rfl (by kernel_rfl) (by kernel_rfl) rfl (by simp -implicitDefEqProofs [hn, ho, hf, ha, xCells, neXO, neXF, neXA, neOF, neOA, neFA, neXO', neXF', neXA', neOF', neOA', neFA', his, hkk, hk, hmin, hkl, hkl2, b0, b1, b2, b3, e1, hz, hz2, hsum, hsrc, nX, nX', nO, nO', ok_opn x.o, sliceO, boundA, srcA] <;> rfl) ?_
    refine AnyW.take 11 rfl (by kernel_rfl) (by kernel_rfl) rfl (by simp -implicitDefEqProofs [hn, ho, hf, ha, xCells, neXO, neXF, neXA, neOF, neOA, neFA, neXO', neXF', neXA', neOF', neOA', neFA', his, hkk, hk, hmin, hkl, hkl2, b0, b1, b2, b3, e1, hz, hz2, hsum, hsrc, nX, nX', nO, nO', ok_opn x.o, sliceO, boundA, srcA] <;> rfl) ?_
    refine AnyW.take 13 rfl (by kernel_rfl) (by kernel_rfl) rfl (by simp -implicitDefEqProofs [hn, ho, hf, ha, xCells, neXO, neXF, neXA, neOF, neOA, neFA, neXO', neXF', neXA', neOF', neOA', neFA', his, hkk, hk, hmin, hkl, hkl2, b0, b1, b2, b3, e1, hz, hz2, hsum, hsrc, nX, nX', nO, nO', ok_opn x.o, sliceO, boundA, srcA] <;> rfl) ?_
    refine AnyW.take 5 rfl (by kernel_rfl) (by kernel_rfl) rfl (by simp -implicitDefEqProofs [hn, ho, hf, ha, xCells, neXO, neXF, neXA, neOF, neOA, neFA, neXO', neXF', neXA', neOF', neOA', neFA', his, hkk, hk, hmin, hkl, hkl2, b0, b1, b2, b3, e1, hz, hz2, hsum, hsrc, nX, nX', nO, nO', ok_opn x.o, sliceO, boundA, srcA] <;> rfl) ?_
    refine AnyW.take 7 rfl (by kernel_rfl) (by kernel_rfl) rfl (by simp -implicitDefEqProofs [hn, ho, hf, ha, xCells, neXO, neXF, neXA, neOF, neOA, neFA, neXO', neXF', neXA', neOF', neOA', neFA', his, hkk, hk, hmin, hkl, hkl2, b0, b1, b2, b3, e1, hz, hz2, hsum, hsrc, nX, nX', nO, nO', ok_opn x.o, sliceO, boundA, srcA] <;> rfl) ?_
    refine AnyW.readX 12 rfl (by kernel_rfl) rfl (by simp -implicitDefEqProofs [hn, ho, hf, ha, xCells, neXO, neXF, neXA, neOF, neOA, neFA, neXO', neXF', neXA', neOF', neOA', neFA', his, hkk, hk, hmin, hkl, hkl2, b0, b1, b2, b3, e1, hz, hz2, hsum, hsrc, nX, nX', nO, nO', ok_opn x.o, sliceO, boundA, srcA] <;> rfl) ?_
    refine AnyW.readX 14 rfl (by kernel_rfl) rfl (by simp -implicitDefEqProofs [hn, ho, hf, ha, xCells, neXO, neXF, neXA, neOF, neOA, neFA, neXO', neXF', neXA', neOF', neOA', neFA', his, hkk, hk, hmin, hkl, hkl2, b0, b1, b2, b3, e1, hz, hz2, hsum, hsrc, nX, nX', nO, nO', ok_opn x.o, sliceO, boundA, srcA] <;> rfl) ?_
    refine AnyW.readX 15 rfl (by kernel_rfl) rfl (by simp -implicitDefEqProofs [hn, ho, hf, ha, xCells, neXO, neXF, neXA, neOF, neOA, neFA, neXO', neXF', neXA', neOF', neOA', neFA', his, hkk, hk, hmin, hkl, hkl2, b0, b1, b2, b3, e1, hz, hz2, hsum, hsrc, nX, nX', nO, nO', ok_opn x.o, sliceO, boundA, srcA] <;> rfl) ?_
    refine AnyW.op 1 rfl (by kernel_rfl) [15, 14, 12] (by kernel_rfl) (Wat.cons rfl rfl rfl (by simp -implicitDefEqProofs [hn, ho, hf, ha, xCells, neXO, neXF, neXA, neOF, neOA, neFA, neXO', neXF', neXA', neOF', neOA', neFA', his, hkk, hk, hmin, hkl, hkl2, b0, b1, b2, b3, e1, hz, hz2, hsum, hsrc, nX, nX', nO, nO', ok_opn x.o, sliceO, boundA, srcA] <;> rfl) (Wat.cons rfl rfl rfl (by simp -implicitDefEqProofs [hn, ho, hf, ha, xCells, neXO, neXF, neXA, neOF, neOA, neFA, neXO', neXF', neXA', neOF', neOA', neFA', his, hkk, hk, hmin, hkl, hkl2, b0, b1, b2, b3, e1, hz, hz2, hsum, hsrc, nX, nX', nO, nO', ok_opn x.o, sliceO, boundA, srcA] <;> rfl) (Wat.cons rfl rfl rfl (by simp -implicitDefEqProofs [hn, ho, hf, ha, xCells, neXO, neXF, neXA, neOF, neOA, neFA, neXO', neXF', neXA', neOF', neOA', neFA', his, hkk, hk, hmin, hkl, hkl2, b0, b1, b2, b3, e1, hz, hz2, hsum, hsrc, nX, nX', nO, nO', ok_opn x.o, sliceO, boundA, srcA] <;> rfl) (Wat.nil)))) ?_
    show OpsA _ _ _ [_] _ _
    refine OpsA.new (c) rfl (by simp -implicitDefEqProofs [hn, ho, hf, ha, xCells, neXO, neXF, neXA, neOF, neOA, neFA, neXO', neXF', neXA', neOF', neOA', neFA', his, hkk, hk, hmin, hkl, hkl2, b0, b1, b2, b3, e1, hz, hz2, hsum, hsrc, nX, nX', nO, nO', ok_opn x.o, sliceO, boundA, srcA] <;> rfl) (by simp -implicitDefEqProofs) (by simp -implicitDefEqProofs <;> rfl) ?_
    refine OpsA.nil ?_
    refine AnyW.op 8 rfl (by kernel_rfl) [15, 14, 12] (by kernel_rfl) (Wat.cons rfl rfl rfl (by simp -implicitDefEqProofs [hn, ho, hf, ha, xCells, neXO, neXF, neXA, neOF, neOA, neFA, neXO', neXF', neXA', neOF', neOA', neFA', his, hkk, hk, hmin, hkl, hkl2, b0, b1, b2, b3, e1, hz, hz2, hsum, hsrc, nX, nX', nO, nO', ok_opn x.o, sliceO, boundA, srcA] <;> rfl) (Wat.cons rfl rfl rfl (by simp -implicitDefEqProofs [hn, ho, hf, ha, xCells, neXO, neXF, neXA, neOF, neOA, neFA, neXO', neXF', neXA', neOF', neOA', neFA', his, hkk, hk, hmin, hkl, hkl2, b0, b1, b2, b3, e1, hz, hz2, hsum, hsrc, nX, nX', nO, nO', ok_opn x.o, sliceO, boundA, srcA] <;> rfl) (Wat.cons rfl rfl rfl (by simp -implicitDefEqProofs [hn, ho, hf, ha, xCells, neXO, neXF, neXA, neOF, neOA, neFA, neXO', neXF', neXA', neOF', neOA', neFA', his, hkk, hk, hmin, hkl, hkl2, b0, b1, b2, b3, e1, hz, hz2, hsum, hsrc, nX, nX', nO, nO', ok_opn x.o, sliceO, boundA, srcA] <;> rfl) (Wat.nil)))) ?_
    show OpsA _ _ _ [_] _ _
    refine OpsA.all (by simp -implicitDefEqProofs [hn, ho, hf, ha, xCells, neXO, neXF, neXA, neOF, neOA, neFA, neXO', neXF', neXA', neOF', neOA', neFA', his, hkk, hk, hmin, hkl, hkl2, b0, b1, b2, b3, e1, hz, hz2, hsum, hsrc, nX, nX', nO, nO', ok_opn x.o, sliceO, boundA, srcA] <;> rfl) ?_
    refine AnyW.op 16 rfl (by kernel_rfl) [] (by kernel_rfl) (Wat.cons rfl rfl rfl (by simp -implicitDefEqProofs [hn, ho, hf, ha, xCells, neXO, neXF, neXA, neOF, neOA, neFA, neXO', neXF', neXA', neOF', neOA', neFA', his, hkk, hk, hmin, hkl, hkl2, b0, b1, b2, b3, e1, hz, hz2, hsum, hsrc, nX, nX', nO, nO', ok_opn x.o, sliceO, boundA, srcA] <;> rfl) (Wat.cons rfl rfl rfl (by simp -implicitDefEqProofs [hn, ho, hf, ha, xCells, neXO, neXF, neXA, neOF, neOA, neFA, neXO', neXF', neXA', neOF', neOA', neFA', his, hkk, hk, hmin, hkl, hkl2, b0, b1, b2, b3, e1, hz, hz2, hsum, hsrc, nX, nX', nO, nO', ok_opn x.o, sliceO, boundA, srcA] <;> rfl) (Wat.cons rfl rfl rfl (by simp -implicitDefEqProofs [hn, ho, hf, ha, xCells, neXO, neXF, neXA, neOF, neOA, neFA, neXO', neXF', neXA', neOF', neOA', neFA', his, hkk, hk, hmin, hkl, hkl2, b0, b1, b2, b3, e1, hz, hz2, hsum, hsrc, nX, nX', nO, nO', ok_opn x.o, sliceO, boundA, srcA] <;> rfl) (Wat.nil)))) ?_
    show OpsA _ _ _ [_] _ _
    refine OpsA.all (by simp -implicitDefEqProofs [hn, ho, hf, ha, xCells, neXO, neXF, neXA, neOF, neOA, neFA, neXO', neXF', neXA', neOF', neOA', neFA', his, hkk, hk, hmin, hkl, hkl2, b0, b1, b2, b3, e1, hz, hz2, hsum, hsrc, nX, nX', nO, nO', ok_opn x.o, sliceO, boundA, srcA] <;> rfl) ?_
    refine AnyW.take 17 rfl (by kernel_rfl) (by kernel_rfl) rfl (by simp -implicitDefEqProofs [hn, ho, hf, ha, xCells, neXO, neXF, neXA, neOF, neOA, neFA, neXO', neXF', neXA', neOF', neOA', neFA', his, hkk, hk, hmin, hkl, hkl2, b0, b1, b2, b3, e1, hz, hz2, hsum, hsrc, nX, nX', nO, nO', ok_opn x.o, sliceO, boundA, srcA] <;> rfl) ?_
    refine AnyW.take 18 rfl (by kernel_rfl) (by kernel_rfl) rfl (by simp -implicitDefEqProofs [hn, ho, hf, ha, xCells, neXO, neXF, neXA, neOF, neOA, neFA, neXO', neXF', neXA', neOF', neOA', neFA', his, hkk, hk, hmin, hkl, hkl2, b0, b1, b2, b3, e1, hz, hz2, hsum, hsrc, nX, nX', nO, nO', ok_opn x.o, sliceO, boundA, srcA] <;> rfl) ?_
    refine AnyW.op 19 rfl (by kernel_rfl) [] (by kernel_rfl) (Wat.nil) ?_
    show OpsA _ _ _ [_] _ _
    refine OpsA.all (by simp -implicitDefEqProofs [hn, ho, hf, ha, xCells, neXO, neXF, neXA, neOF, neOA, neFA, neXO', neXF', neXA', neOF', neOA', neFA', his, hkk, hk, hmin, hkl, hkl2, b0, b1, b2, b3, e1, hz, hz2, hsum, hsrc, nX, nX', nO, nO', ok_opn x.o, sliceO, boundA, srcA] <;> rfl) ?_
    refine AnyW.done (P := Try.prog) (by kernel_rfl) (Wat.nil) ?_
    refine fnPost.gh (Gh.rename O c X 1 (T := 81) (e := 5) (g := g.o) (rows := x.o.map opnRow) (T2 := 81) (e2 := 5) (g2 := 2) (rows2 := (x.o.eraseIdx k).map opnRow) (len := k + (x.o.length - (k + 1))) (T' := 74)
      (cs := [.sl (x.v.map intRow), .os c 2 (k + (x.o.length - (k + 1))), .os F g.f x.f.length, .os A g.a x.a.length, .int .i64 x.clock]) (by simp -implicitDefEqProofs [ho, neXO', nO]) rfl (by simp -implicitDefEqProofs [nX', hrw]) rfl (by simp -implicitDefEqProofs) rfl rfl rfl nO) ?_
    have hset := setO' h (o' := x.o.eraseIdx k) (go := g.o + 1)
    have kk := fin _ σ { x with o := x.o.eraseIdx k } { g with o := g.o + 1 } hset (Stays.refl _ _) hσ
    have hd : forgetX x key = { x with o := x.o.eraseIdx k } := by simp -implicitDefEqProofs [forgetX, his, hkk]
    refine fnPost.none (.inl rfl) rfl rfl ?_ ⟨rfl, { g with o := g.o + 1 }, ?_⟩
    · simp only [σ_put, σ_with, List.set_cons_succ, List.set_cons_zero]
      rw [ren_chain nX' neXO hcn, hlen]
      exact kk.1
    · simp only [σ_put, σ_with, List.set_cons_succ, List.set_cons_zero]
      rw [ren_chain nX' neXO hcn, hlen, hd]
      exact kk.2
theorem call_xask44 {σ : Nat → Option AO} {X O F A : Nat} {x : RW} {g : Gens} (h : IsX σ X O F A x g) {e : Ev} (hfl : x.f.length < 900000) : CallA Try.prog 44 [.ptr X 0, evAV e] σ [] fun r σ' => r = .tup [] ∧ ∃ g', σ' = putX σ X O F A (askX x e) g' := by
  refine CallA.of ttok Try.func44 rfl (show 2 ≤ 55 by decide) fun c hF => ?_
  refine Tri.fresh (Tri.fresh (Tri.fresh ?_))
  have hσ : cutσ c σ = σ := cutσ_self fun n hn => (hF.good.2 n hn : σ n = none)
  have hn := h.n
  have ho := h.o
  have hf := h.f
  have ha := h.a
  have hXc : X < c := (hF.σ X _ h.n).1
  have hOc : O < c := (hF.σ O _ h.o).1
  have hFc : F < c := (hF.σ F _ h.f).1
  have hAc : A < c := (hF.σ A _ h.a).1
  have four := h.four
  have neXO := four.xo
  have neXF := four.xf
  have neXA := four.xa
  have neOF := four.of
  have neOA := four.oa
  have neFA := four.fa
  have neXO' := four.xo.symm
  have neXF' := four.xf.symm
  have neXA' := four.xa.symm
  have neOF' := four.of.symm
  have neOA' := four.oa.symm
  have neFA' := four.fa.symm
  have fin : ∀ (s σ1 : Nat → Option AO) (nx : RW) (ng : Gens), s = putX σ1 X O F A nx ng → Stays c σ σ1 → cutσ c σ1 = σ → Stays c σ s ∧ cutσ c s = putX σ X O F A nx ng := by
    rintro s σ1 nx ng rfl h1 h2
    exact ⟨Stays.putX hOc hFc hAc h1, by rw [cut_putX hXc hOc hFc hAc, h2]⟩
  have pX : X ≠ c + 2 := by omega
  have pO : O ≠ c + 2 := by omega
  have qX : X ≠ c + 1 := by omega
  have qO : O ≠ c + 1 := by omega
  have qX' : c + 1 ≠ X := by omega
  have pX' : c + 2 ≠ X := by omega
  have z12 : c + 1 ≠ c + 2 := by omega
  have z21 : c + 2 ≠ c + 1 := by omega
  have m1 : ¬ c = c + 1 + 1 := by omega
  have m2 : ¬ c = c + 2 := by omega
  have m3 : ¬ c + 1 + 1 = c := by omega
  have m4 : ¬ c + 2 = c := by omega
  have m5 : ¬ c = c + 1 := by omega
  have m6 : ¬ c + 1 = c := by omega
  have hck := h.ck
  have hx1 : ∀ y, IsX (upd σ (c + 2) y) X O F A x g := fun y => ⟨by rw [upd_ne _ _ pX]; exact hn, by rw [upd_ne _ _ pO]; exact ho, by rw [upd_ne _ _ (show F ≠ c + 2 by omega)]; exact hf, by rw [upd_ne _ _ (show A ≠ c + 2 by omega)]; exact ha, h.vl, h.ol, h.fl, h.al, h.ck⟩
  have ek : IntKind.i64.wrap (x.clock + 1) = x.clock + 1 := wrap_id (by omega) (by omega)
  refine Tri.seqX ttok rfl (by simp -implicitDefEqProofs [hn, ho, hf, ha, xCells, neXO, neXF, neXA, neOF, neOA, neFA, neXO', neXF', neXA', neOF', neOA', neFA', pX, pO, qX, qO, qX', pX', z12, z21, m1, m2, m3, m4, m5, m6, evAV] <;> rfl) ?_
  refine Tri.seqR ttok rfl ?_
  refine OpsA.runX 3 (by simp -implicitDefEqProofs [hn, ho, hf, ha, xCells, neXO, neXF, neXA, neOF, neOA, neFA, neXO', neXF', neXA', neOF', neOA', neFA', pX, pO, qX, qO, qX', pX', z12, z21, m1, m2, m3, m4, m5, m6, evAV] <;> rfl) ?_
  simp only [List.drop]
  refine OpsA.call (call_find51 (hx1 _)) rfl (by simp -implicitDefEqProofs [hn, ho, hf, ha, xCells, neXO, neXF, neXA, neOF, neOA, neFA, neXO', neXF', neXA', neOF', neOA', neFA', pX, pO, qX, qO, qX', pX', z12, z21, m1, m2, m3, m4, m5, m6, evAV] <;> rfl) (by kernel_rfl) (by simp -implicitDefEqProofs) rfl ?_
  rintro x σ' ⟨rfl, rfl⟩
  cases his : isK x.o e.key
  · refine OpsA.all (by simp -implicitDefEqProofs [hn, ho, hf, ha, xCells, neXO, neXF, neXA, neOF, neOA, neFA, neXO', neXF', neXA', neOF', neOA', neFA', pX, pO, qX, qO, qX', pX', z12, z21, m1, m2, m3, m4, m5, m6, evAV, his] <;> rfl) ?_
    refine Tri.seq ?_
    refine Tri.seqX ttok rfl (by simp -implicitDefEqProofs [hn, ho, hf, ha, xCells, neXO, neXF, neXA, neOF, neOA, neFA, neXO', neXF', neXA', neOF', neOA', neFA', pX, pO, qX, qO, qX', pX', z12, z21, m1, m2, m3, m4, m5, m6, evAV, his] <;> rfl) ?_
    refine Tri.cond (b := false) (by simp -implicitDefEqProofs [hn, ho, hf, ha, xCells, neXO, neXF, neXA, neOF, neOA, neFA, neXO', neXF', neXA', neOF', neOA', neFA', pX, pO, qX, qO, qX', pX', z12, z21, m1, m2, m3, m4, m5, m6, evAV, his]) (fun h => by cases h) (fun _ => ?_)
    have hk := findK_le x.o e.key
    obtain ⟨k, hkk⟩ : ∃ k, findK x.o e.key = k := ⟨_, rfl⟩
    simp only [hkk] at hk ⊢
    have hol := h.ol
    have nX : X ≠ c := by omega
    have nX' : c ≠ X := by omega
    have nO : O ≠ c := by omega
    have nO' : c ≠ O := by omega
    have b0 : k ≤ maxLen := by simp -implicitDefEqProofs [maxLen]; omega
    have b00 : 1 ≤ maxLen := by simp -implicitDefEqProofs [maxLen]
    have b1 : k * 48 ≤ 140737488355328 := by omega
    have hmin : min k x.o.length = k := by omega
    have e1 : IntKind.i64.wrap ((k : Int) + 1) = (k : Int) + 1 := wrap_id (by omega) (by omega)
    have hz : (0 : Int) ≤ (k : Int) + 1 := by omega
    have hz2 : ((k : Int) + 1).toNat = k + 1 := by omega
    have hcn : σ c = none := hF.good.2 c (Nat.le_refl _)
    have hlr : x.o.length - k + k = x.o.length := by omega
    have b2 : k + 1 ≤ maxLen := by simp -implicitDefEqProofs [maxLen]; omega
    have b3 : (k + 1) * 48 ≤ 140737488355328 := by omega
    have b4 : k + 1 + (x.o.length - k) ≤ maxLen := by simp -implicitDefEqProofs [maxLen]; omega
    have b5 : (k + 1 + (x.o.length - k)) * 48 ≤ 140737488355328 := by omega
    have hsrc : ((x.o.map opnRow).drop k).take (x.o.length - k) = (x.o.map opnRow).drop k := List.take_of_length_le (by simp -implicitDefEqProofs)
    have hsum : k + (x.o.length - k) = x.o.length := by omega
    have hs1 : ∀ σ' : Nat → Option AO, σ' O = some (.arr 81 5 g.o (x.o.map opnRow)) → srcA σ' 5 (.os O g.o k) = some ((x.o.map opnRow).take k) := fun σ' e => by simp -implicitDefEqProofs [srcA, e, hk]
    have hs2 : ∀ σ' : Nat → Option AO, σ' O = some (.arr 81 5 g.o (x.o.map opnRow)) → srcA σ' 5 (if k = 0 then .os O g.o x.o.length else .ow O g.o 5 k (x.o.length - k)) = some ((x.o.map opnRow).drop k) := fun σ' e => by
      by_cases h0 : k = 0
      · subst h0; simp [srcA, e]; exact List.take_of_length_le (by simp -implicitDefEqProofs)
      · simp [srcA, e, h0, hsum, hsrc]
    obtain ⟨p, hp⟩ : ∃ p : Opn, ⟨⟨e.name, e.key, 0⟩, x.clock + 1, 1⟩ = p := ⟨_, rfl⟩
    have hpr : opnRow p = [.str e.name, .int .i64 e.key, .int .i64 0, .int .i64 (x.clock + 1), .int .i64 1] := by rw [← hp]; rfl
    have hrw : (x.o.map opnRow).take k ++ ([.str e.name, .int .i64 e.key, .int .i64 0, .int .i64 (x.clock + 1), .int .i64 1] :: (x.o.map opnRow).drop k) = (x.o.take k ++ [p] ++ x.o.drop k).map opnRow := by rw [← hpr]; simp
    have hlen : k + 1 + (x.o.length - k) = (x.o.take k ++ [p] ++ x.o.drop k).length := by simp -implicitDefEqProofs; omega
    refine Tri.skip ?_
    refine Tri.seqX ttok rfl (by simp -implicitDefEqProofs [hn, ho, hf, ha, xCells, neXO, neXF, neXA, neOF, neOA, neFA, neXO', neXF', neXA', neOF', neOA', neFA', pX, pO, qX, qO, qX', pX', z12, z21, m1, m2, m3, m4, m5, m6, evAV, his, hkk, hk, hmin, b00, b0, b1, b2, b3, b4, b5, hsum, hsrc, nX, nX', nO, nO', ok_opn x.o, sliceO, boundA, hs1, hs2, ek] <;> rfl) ?_
    refine Tri.seqD ttok mix [1, 2, 3, 0, 4, 5, 6, 7, 8] (by kernel_rfl) rfl ?_
    simp only [List.filterMap, List.map, List.getElem?_cons_succ, List.getElem?_cons_zero]
    refine OpsA.all (by simp -implicitDefEqProofs [hn, ho, hf, ha, xCells, neXO, neXF, neXA, neOF, neOA, neFA, neXO', neXF', neXA', neOF', neOA', neFA', pX, pO, qX, qO, qX', pX', z12, z21, m1, m2, m3, m4, m5, m6, evAV, his, hkk, hk, hmin, b00, b0, b1, b2, b3, b4, b5, hsum, hsrc, nX, nX', nO, nO', ok_opn x.o, sliceO, boundA, hs1, hs2, ek] <;> rfl) ?_
    refine Tri.seq (Tri.drawW ttok mix rfl ?_)
    refine AnyW.take 0 rfl (by kernel_rfl) (by kernel_rfl) rfl (by simp -implicitDefEqProofs [hn, ho, hf, ha, xCells, neXO, neXF, neXA, neOF, neOA, neFA, neXO', neXF', neXA', neOF', neOA', neFA', pX, pO, qX, qO, qX', pX', z12, z21, m1, m2, m3, m4, m5, m6, evAV, his, hkk, hk, hmin, b00, b0, b1, b2, b3, b4, b5, hsum, hsrc, nX, nX', nO, nO', ok_opn x.o, sliceO, boundA, hs1, hs2, ek] <;> rfl) ?_
    refine AnyW.take 2 rfl (by kernel_rfl) (by kernel_rfl) rfl (by simp -implicitDefEqProofs [hn, ho, hf, ha, xCells, neXO, neXF, neXA, neOF, neOA, neFA, neXO', neXF', neXA', neOF', neOA', neFA', pX, pO, qX, qO, qX', pX', z12, z21, m1, m2, m3, m4, m5, m6, evAV, his, hkk, hk, hmin, b00, b0, b1, b2, b3, b4, b5, hsum, hsrc, nX, nX', nO, nO', ok_opn x.o, sliceO, boundA, hs1, hs2, ek] <;> rfl) ?_
    refine AnyW.take 3 rfl (by kernel_rfl) (by kernel_rfl) rfl (by simp -implicitDefEqProofs [hn, ho, hf, ha, xCells, neXO, neXF, neXA, neOF, neOA, neFA, neXO', neXF', neXA', neOF', neOA', neFA', pX, pO, qX, qO, qX', pX', z12, z21, m1, m2, m3, m4, m5, m6, evAV, his, hkk, hk, hmin, b00, b0, b1, b2, b3, b4, b5, hsum, hsrc, nX, nX', nO, nO', ok_opn x.o, sliceO, boundA, hs1, hs2, ek] <;> rfl) ?_
    refine AnyW.take 4 rfl (by kernel_rfl) (by kernel_rfl) rfl (by simp -implicitDefEqProofs [hn, ho, hf, ha, xCells, neXO, neXF, neXA, neOF, neOA, neFA, neXO', neXF', neXA', neOF', neOA', neFA', pX, pO, qX, qO, qX', pX', z12, z21, m1, m2, m3, m4, m5, m6, evAV, his, hkk, hk, hmin, b00, b0, b1, b2, b3, b4, b5, hsum, hsrc, nX, nX', nO, nO', ok_opn x.o, sliceO, boundA, hs1, hs2, ek] <;> rfl) ?_
    refine AnyW.take 6 rfl (by kernel_rfl) (by kernel_rfl) rfl (by simp -implicitDefEqProofs [hn, ho, hf, ha, xCells, neXO, neXF, neXA, neOF, neOA, neFA, neXO', neXF', neXA', neOF', neOA', neFA', pX, pO, qX, qO, qX', pX', z12, z21, m1, m2, m3, m4, m5, m6, evAV, his, hkk, hk, hmin, b00, b0, b1, b2, b3, b4, b5, hsum, hsrc, nX, nX', nO, nO', ok_opn x.o, sliceO, boundA, hs1, hs2, ek] <;> rfl) ?_
    refine AnyW.take 12 rfl (by kernel_rfl) (by kernel_rfl) rfl (by simp -implicitDefEqProofs [hn, ho, hf, ha, xCells, neXO, neXF, neXA, neOF, neOA, neFA, neXO', neXF', neXA', neOF', neOA', neFA', pX, pO, qX, qO, qX', pX', z12, z21, m1, m2, m3, m4, m5, m6, evAV, his, hkk, hk, hmin, b00, b0, b1, b2, b3, b4, b5, hsum, hsrc, nX, nX', nO, nO', ok_opn x.o, sliceO, boundA, hs1, hs2, ek] <;> rfl) ?_
    refine AnyW.take 13 rfl (by kernel_rfl) (by kernel_rfl) rfl (by simp -implicitDefEqProofs [hn, ho, hf, ha, xCells, neXO, neXF, neXA, neOF, neOA, neFA, neXO', neXF', neXA', neOF', neOA', neFA', pX, pO, qX, qO, qX', pX', z12, z21, m1, m2, m3, m4, m5, m6, evAV, his, hkk, hk, hmin, b00, b0, b1, b2, b3, b4, b5, hsum, hsrc, nX, nX', nO, nO', ok_opn x.o, sliceO, boundA, hs1, hs2, ek] <;> rfl) ?_
    refine AnyW.take 14 rfl (by kernel_rfl) (by kernel_rfl) rfl (by simp -implicitDefEqProofs [hn, ho, hf, ha, xCells, neXO, neXF, neXA, neOF, neOA, neFA, neXO', neXF', neXA', neOF', neOA', neFA', pX, pO, qX, qO, qX', pX', z12, z21, m1, m2, m3, m4, m5, m6, evAV, his, hkk, hk, hmin, b00, b0, b1, b2, b3, b4, b5, hsum, hsrc, nX, nX', nO, nO', ok_opn x.o, sliceO, boundA, hs1, hs2, ek] <;> rfl) ?_
    refine AnyW.take 16 rfl (by kernel_rfl) (by kernel_rfl) rfl (by simp -implicitDefEqProofs [hn, ho, hf, ha, xCells, neXO, neXF, neXA, neOF, neOA, neFA, neXO', neXF', neXA', neOF', neOA', neFA', pX, pO, qX, qO, qX', pX', z12, z21, m1, m2, m3, m4, m5, m6, evAV, his, hkk, hk, hmin, b00, b0, b1, b2, b3, b4, b5, hsum, hsrc, nX, nX', nO, nO', ok_opn x.o, sliceO, boundA, hs1, hs2, ek] <;> rfl) ?_
    refine AnyW.take 5 rfl (by kernel_rfl) (by kernel_rfl) rfl (by simp -implicitDefEqProofs [hn, ho, hf, ha, xCells, neXO, neXF, neXA, neOF, neOA, neFA, neXO', neXF', neXA', neOF', neOA', neFA', pX, pO, qX, qO, qX', pX', z12, z21, m1, m2, m3, m4, m5, m6, evAV, his, hkk, hk, hmin, b00, b0, b1, b2, b3, b4, b5, hsum, hsrc, nX, nX', nO, nO', ok_opn x.o, sliceO, boundA, hs1, hs2, ek] <;> rfl) ?_
    refine AnyW.take 7 rfl (by kernel_rfl) (by kernel_rfl) rfl (by simp -implicitDefEqProofs [hn, ho, hf, ha, xCells, neXO, neXF, neXA, neOF, neOA, neFA, neXO', neXF', neXA', neOF', neOA', neFA', pX, pO, qX, qO, qX', pX', z12, z21, m1, m2, m3, m4, m5, m6, evAV, his, hkk, hk, hmin, b00, b0, b1, b2, b3, b4, b5, hsum, hsrc, nX, nX', nO, nO', ok_opn x.o, sliceO, boundA, hs1, hs2, ek] <;> rfl) ?_
    refine AnyW.readX 9 rfl (by kernel_rfl) rfl (by simp -implicitDefEqProofs [hn, ho, hf, ha, xCells, neXO, neXF, neXA, neOF, neOA, neFA, neXO', neXF', neXA', neOF', neOA', neFA', pX, pO, qX, qO, qX', pX', z12, z21, m1, m2, m3, m4, m5, m6, evAV, his, hkk, hk, hmin, b00, b0, b1, b2, b3, b4, b5, hsum, hsrc, nX, nX', nO, nO', ok_opn x.o, sliceO, boundA, hs1, hs2, ek] <;> rfl) ?_
    refine AnyW.readX 10 rfl (by kernel_rfl) rfl (by simp -implicitDefEqProofs [hn, ho, hf, ha, xCells, neXO, neXF, neXA, neOF, neOA, neFA, neXO', neXF', neXA', neOF', neOA', neFA', pX, pO, qX, qO, qX', pX', z12, z21, m1, m2, m3, m4, m5, m6, evAV, his, hkk, hk, hmin, b00, b0, b1, b2, b3, b4, b5, hsum, hsrc, nX, nX', nO, nO', ok_opn x.o, sliceO, boundA, hs1, hs2, ek] <;> rfl) ?_
    refine AnyW.readX 15 rfl (by kernel_rfl) rfl (by simp -implicitDefEqProofs [hn, ho, hf, ha, xCells, neXO, neXF, neXA, neOF, neOA, neFA, neXO', neXF', neXA', neOF', neOA', neFA', pX, pO, qX, qO, qX', pX', z12, z21, m1, m2, m3, m4, m5, m6, evAV, his, hkk, hk, hmin, b00, b0, b1, b2, b3, b4, b5, hsum, hsrc, nX, nX', nO, nO', ok_opn x.o, sliceO, boundA, hs1, hs2, ek] <;> rfl) ?_
    refine AnyW.readX 17 rfl (by kernel_rfl) rfl (by simp -implicitDefEqProofs [hn, ho, hf, ha, xCells, neXO, neXF, neXA, neOF, neOA, neFA, neXO', neXF', neXA', neOF', neOA', neFA', pX, pO, qX, qO, qX', pX', z12, z21, m1, m2, m3, m4, m5, m6, evAV, his, hkk, hk, hmin, b00, b0, b1, b2, b3, b4, b5, hsum, hsrc, nX, nX', nO, nO', ok_opn x.o, sliceO, boundA, hs1, hs2, ek] <;> rfl) ?_
    refine AnyW.op 1 rfl (by kernel_rfl) [17, 15, 10, 9] (by kernel_rfl) (Wat.cons rfl rfl rfl (by simp -implicitDefEqProofs [hn, ho, hf, ha, xCells, neXO, neXF, neXA, neOF, neOA, neFA, neXO', neXF', neXA', neOF', neOA', neFA', pX, pO, qX, qO, qX', pX', z12, z21, m1, m2, m3, m4, m5, m6, evAV, his, hkk, hk, hmin, b00, b0, b1, b2, b3, b4, b5, hsum, hsrc, nX, nX', nO, nO', ok_opn x.o, sliceO, boundA, hs1, hs2, ek] <;> rfl) (Wat.cons rfl rfl rfl (by simp -implicitDefEqProofs [hn, ho, hf, ha, xCells, neXO, neXF, neXA, neOF, neOA, neFA, neXO', neXF', neXA', neOF', neOA', neFA', pX, pO, qX, qO, qX', pX', z12, z21, m1, m2, m3, m4, m5, m6, evAV, his, hkk, hk, hmin, b00, b0, b1, b2, b3, b4, b5, hsum, hsrc, nX, nX', nO, nO', ok_opn x.o, sliceO, boundA, hs1, hs2, ek] <;> rfl) (Wat.cons rfl rfl rfl (by simp -implicitDefEqProofs [hn, ho, hf, ha, xCells, neXO, neXF, neXA, neOF, neOA, neFA, neXO', neXF', neXA', neOF', neOA', neFA', pX, pO, qX, qO, qX', pX', z12, z21, m1, m2, m3, m4, m5, m6, evAV, his, hkk, hk, hmin, b00, b0, b1, b2, b3, b4, b5, hsum, hsrc, nX, nX', nO, nO', ok_opn x.o, sliceO, boundA, hs1, hs2, ek] <;> rfl) (Wat.cons rfl rfl rfl (by simp -implicitDefEqProofs [hn, ho, hf, ha, xCells, neXO, neXF, neXA, neOF, neOA, neFA, neXO', neXF', neXA', neOF', neOA', neFA', pX, pO, qX, qO, qX', pX', z12, z21, m1, m2, m3, m4, m5, m6, evAV, his, hkk, hk, hmin, b00, b0, b1, b2, b3, b4, b5, hsum, hsrc, nX, nX', nO, nO', ok_opn x.o, sliceO, boundA, hs1, hs2, ek] <;> rfl) (Wat.nil))))) ?_
    show OpsA _ _ _ [_] _ _
    refine OpsA.new (c) rfl (by simp -implicitDefEqProofs [hn, ho, hf, ha, xCells, neXO, neXF, neXA, neOF, neOA, neFA, neXO', neXF', neXA', neOF', neOA', neFA', pX, pO, qX, qO, qX', pX', z12, z21, m1, m2, m3, m4, m5, m6, evAV, his, hkk, hk, hmin, b00, b0, b1, b2, b3, b4, b5, hsum, hsrc, nX, nX', nO, nO', ok_opn x.o, sliceO, boundA, hs1, hs2, ek] <;> rfl) (by simp -implicitDefEqProofs) (by simp -implicitDefEqProofs <;> rfl) ?_
    refine OpsA.nil ?_
    refine AnyW.op 8 rfl (by kernel_rfl) [17, 15, 10, 9] (by kernel_rfl) (Wat.cons rfl rfl rfl (by simp -implicitDefEqProofs [hn, ho, hf, ha, xCells, neXO, neXF, neXA, neOF, neOA, neFA, neXO', neXF', neXA', neOF', neOA', neFA', pX, pO, qX, qO, qX', pX', z12, z21, m1, m2, m3, m4, m5, m6, evAV, his, hkk, hk, hmin, b00, b0, b1, b2, b3, b4, b5, hsum, hsrc, nX, nX', nO, nO', ok_opn x.o, sliceO, boundA, hs1, hs2, ek] <;> rfl) (Wat.cons rfl rfl rfl (by simp -implicitDefEqProofs [hn, ho, hf, ha, xCells, neXO, neXF, neXA, neOF, neOA, neFA, neXO', neXF', neXA', neOF', neOA', neFA', pX, pO, qX, qO, qX', pX', z12, z21, m1, m2, m3, m4, m5, m6, evAV, his, hkk, hk, hmin, b00, b0, b1, b2, b3, b4, b5, hsum, hsrc, nX, nX', nO, nO', ok_opn x.o, sliceO, boundA, hs1, hs2, ek] <;> rfl) (Wat.cons rfl rfl rfl (by simp -implicitDefEqProofs [hn, ho, hf, ha, xCells, neXO, neXF, neXA, neOF, neOA, neFA, neXO', neXF', neXA', neOF', neOA', neFA', pX, pO, qX, qO, qX', pX', z12, z21, m1, m2, m3, m4, m5, m6, evAV, his, hkk, hk, hmin, b00, b0, b1, b2, b3, b4, b5, hsum, hsrc, nX, nX', nO, nO', ok_opn x.o, sliceO, boundA, hs1, hs2, ek] <;> rfl) (Wat.cons rfl rfl rfl (by simp -implicitDefEqProofs [hn, ho, hf, ha, xCells, neXO, neXF, neXA, neOF, neOA, neFA, neXO', neXF', neXA', neOF', neOA', neFA', pX, pO, qX, qO, qX', pX', z12, z21, m1, m2, m3, m4, m5, m6, evAV, his, hkk, hk, hmin, b00, b0, b1, b2, b3, b4, b5, hsum, hsrc, nX, nX', nO, nO', ok_opn x.o, sliceO, boundA, hs1, hs2, ek] <;> rfl) (Wat.nil))))) ?_
    show OpsA _ _ _ [_] _ _
    refine OpsA.all (by simp -implicitDefEqProofs [hn, ho, hf, ha, xCells, neXO, neXF, neXA, neOF, neOA, neFA, neXO', neXF', neXA', neOF', neOA', neFA', pX, pO, qX, qO, qX', pX', z12, z21, m1, m2, m3, m4, m5, m6, evAV, his, hkk, hk, hmin, b00, b0, b1, b2, b3, b4, b5, hsum, hsrc, nX, nX', nO, nO', ok_opn x.o, sliceO, boundA, hs1, hs2, ek] <;> rfl) ?_
    refine AnyW.op 11 rfl (by kernel_rfl) [17, 15] (by kernel_rfl) (Wat.cons rfl rfl rfl (by simp -implicitDefEqProofs [hn, ho, hf, ha, xCells, neXO, neXF, neXA, neOF, neOA, neFA, neXO', neXF', neXA', neOF', neOA', neFA', pX, pO, qX, qO, qX', pX', z12, z21, m1, m2, m3, m4, m5, m6, evAV, his, hkk, hk, hmin, b00, b0, b1, b2, b3, b4, b5, hsum, hsrc, nX, nX', nO, nO', ok_opn x.o, sliceO, boundA, hs1, hs2, ek] <;> rfl) (Wat.cons rfl rfl rfl (by simp -implicitDefEqProofs [hn, ho, hf, ha, xCells, neXO, neXF, neXA, neOF, neOA, neFA, neXO', neXF', neXA', neOF', neOA', neFA', pX, pO, qX, qO, qX', pX', z12, z21, m1, m2, m3, m4, m5, m6, evAV, his, hkk, hk, hmin, b00, b0, b1, b2, b3, b4, b5, hsum, hsrc, nX, nX', nO, nO', ok_opn x.o, sliceO, boundA, hs1, hs2, ek] <;> rfl) (Wat.cons rfl rfl rfl (by simp -implicitDefEqProofs [hn, ho, hf, ha, xCells, neXO, neXF, neXA, neOF, neOA, neFA, neXO', neXF', neXA', neOF', neOA', neFA', pX, pO, qX, qO, qX', pX', z12, z21, m1, m2, m3, m4, m5, m6, evAV, his, hkk, hk, hmin, b00, b0, b1, b2, b3, b4, b5, hsum, hsrc, nX, nX', nO, nO', ok_opn x.o, sliceO, boundA, hs1, hs2, ek] <;> rfl) (Wat.cons rfl rfl rfl (by simp -implicitDefEqProofs [hn, ho, hf, ha, xCells, neXO, neXF, neXA, neOF, neOA, neFA, neXO', neXF', neXA', neOF', neOA', neFA', pX, pO, qX, qO, qX', pX', z12, z21, m1, m2, m3, m4, m5, m6, evAV, his, hkk, hk, hmin, b00, b0, b1, b2, b3, b4, b5, hsum, hsrc, nX, nX', nO, nO', ok_opn x.o, sliceO, boundA, hs1, hs2, ek] <;> rfl) (Wat.nil))))) ?_
    show OpsA _ _ _ [_] _ _
    refine OpsA.all (by simp -implicitDefEqProofs [hn, ho, hf, ha, xCells, neXO, neXF, neXA, neOF, neOA, neFA, neXO', neXF', neXA', neOF', neOA', neFA', pX, pO, qX, qO, qX', pX', z12, z21, m1, m2, m3, m4, m5, m6, evAV, his, hkk, hk, hmin, b00, b0, b1, b2, b3, b4, b5, hsum, hsrc, nX, nX', nO, nO', ok_opn x.o, sliceO, boundA, hs1, hs2, ek] <;> rfl) ?_
    refine AnyW.op 18 rfl (by kernel_rfl) [] (by kernel_rfl) (Wat.cons rfl rfl rfl (by simp -implicitDefEqProofs [hn, ho, hf, ha, xCells, neXO, neXF, neXA, neOF, neOA, neFA, neXO', neXF', neXA', neOF', neOA', neFA', pX, pO, qX, qO, qX', pX', z12, z21, m1, m2, m3, m4, m5, m6, evAV, his, hkk, hk, hmin, b00, b0, b1, b2, b3, b4, b5, hsum, hsrc, nX, nX', nO, nO', ok_opn x.o, sliceO, boundA, hs1, hs2, ek] <;> rfl) (Wat.cons rfl rfl rfl (by simp -implicitDefEqProofs [hn, ho, hf, ha, xCells, neXO, neXF, neXA, neOF, neOA, neFA, neXO', neXF', neXA', neOF', neOA', neFA', pX, pO, qX, qO, qX', pX', z12, z21, m1, m2, m3, m4, m5, m6, evAV, his, hkk, hk, hmin, b00, b0, b1, b2, b3, b4, b5, hsum, hsrc, nX, nX', nO, nO', ok_opn x.o, sliceO, boundA, hs1, hs2, ek] <;> rfl) (Wat.nil))) ?_
    show OpsA _ _ _ [_] _ _
    refine OpsA.all (by simp -implicitDefEqProofs [hn, ho, hf, ha, xCells, neXO, neXF, neXA, neOF, neOA, neFA, neXO', neXF', neXA', neOF', neOA', neFA', pX, pO, qX, qO, qX', pX', z12, z21, m1, m2, m3, m4, m5, m6, evAV, his, hkk, hk, hmin, b00, b0, b1, b2, b3, b4, b5, hsum, hsrc, nX, nX', nO, nO', ok_opn x.o, sliceO, boundA, hs1, hs2, ek] <;> rfl) ?_
    refine AnyW.take 19 rfl (by kernel_rfl) (by kernel_rfl) rfl (by simp -implicitDefEqProofs [hn, ho, hf, ha, xCells, neXO, neXF, neXA, neOF, neOA, neFA, neXO', neXF', neXA', neOF', neOA', neFA', pX, pO, qX, qO, qX', pX', z12, z21, m1, m2, m3, m4, m5, m6, evAV, his, hkk, hk, hmin, b00, b0, b1, b2, b3, b4, b5, hsum, hsrc, nX, nX', nO, nO', ok_opn x.o, sliceO, boundA, hs1, hs2, ek] <;> rfl) ?_
    refine AnyW.take 20 rfl (by kernel_rfl) (by kernel_rfl) rfl (by simp -implicitDefEqProofs [hn, ho, hf, ha, xCells, neXO, neXF, neXA, neOF, neOA, neFA, neXO', neXF', neXA', neOF', neOA', neFA', pX, pO, qX, qO, qX', pX', z12, z21, m1, m2, m3, m4, m5, m6, evAV, his, hkk, hk, hmin, b00, b0, b1, b2, b3, b4, b5, hsum, hsrc, nX, nX', nO, nO', ok_opn x.o, sliceO, boundA, hs1, hs2, ek] <;> rfl) ?_
    refine AnyW.op 21 rfl (by kernel_rfl) [] (by kernel_rfl) (Wat.nil) ?_
    show OpsA _ _ _ [_] _ _
    refine OpsA.all (by simp -implicitDefEqProofs [hn, ho, hf, ha, xCells, neXO, neXF, neXA, neOF, neOA, neFA, neXO', neXF', neXA', neOF', neOA', neFA', pX, pO, qX, qO, qX', pX', z12, z21, m1, m2, m3, m4, m5, m6, evAV, his, hkk, hk, hmin, b00, b0, b1, b2, b3, b4, b5, hsum, hsrc, nX, nX', nO, nO', ok_opn x.o, sliceO, boundA, hs1, hs2, ek] <;> rfl) ?_
    refine AnyW.done (P := Try.prog) (by kernel_rfl) (Wat.nil) ?_
    simp only [thenQ]
    obtain ⟨B, hB⟩ : ∃ B, AO.cells 30 [AV.str e.name, .int .i64 e.key, .int .i64 0] = B := ⟨_, rfl⟩
    obtain ⟨DD, hDD⟩ : ∃ DD, AO.cells 81 [AV.str e.name, .int .i64 e.key, .int .i64 0, .int .i64 (x.clock + 1), .int .i64 1] = DD := ⟨_, rfl⟩
    obtain ⟨σL, hσL⟩ : ∃ σL, upd (upd σ (c + 2) (some B)) (c + 1) (some DD) = σL := ⟨_, rfl⟩
    have hL : IsX σL X O F A x g := by
      rw [← hσL]
      exact ⟨by rw [upd_ne _ _ qX, upd_ne _ _ pX]; exact hn, by rw [upd_ne _ _ qO, upd_ne _ _ pO]; exact ho, by rw [upd_ne _ _ (show F ≠ c + 1 by omega), upd_ne _ _ (show F ≠ c + 2 by omega)]; exact hf, by rw [upd_ne _ _ (show A ≠ c + 1 by omega), upd_ne _ _ (show A ≠ c + 2 by omega)]; exact ha, h.vl, h.ol, h.fl, h.al, h.ck⟩
    have hLc : σL c = none := by rw [← hσL, upd_ne _ _ m5, upd_ne _ _ m2]; exact hcn
    have hL2 : σL (c + 2) = some B := by rw [← hσL, upd_ne _ _ z21, upd_same]
    refine Tri.gh (Gh.rename O c X 1 (T := 81) (e := 5) (g := g.o) (rows := x.o.map opnRow) (T2 := 81) (e2 := 5) (g2 := 3) (rows2 := (x.o.take k ++ [p] ++ x.o.drop k).map opnRow) (len := k + 1 + (x.o.length - k)) (T' := 74)
      (cs := [.sl (x.v.map intRow), .os c 3 (k + 1 + (x.o.length - k)), .os F g.f x.f.length, .os A g.a x.a.length, .int .i64 x.clock]) (by simp -implicitDefEqProofs [ho, neXO', nO, pO, qO]) rfl (by simp -implicitDefEqProofs [nX', hpr]) rfl (by simp -implicitDefEqProofs) rfl rfl rfl nO) ?_
    refine Tri.gh (Le.gh (s' := { t := tl [(0, .ptr X 0), (3, .ptr (c + 2) 0)], σ := putX σL X O F A { x with o := x.o.take k ++ [p] ++ x.o.drop k } { g with o := g.o + 1 }, c := c + 3, fr := [], m := 55, ds := [] }) ⟨LeT.cons (by simp -implicitDefEqProofs) (LeT.cons (by simp -implicitDefEqProofs) LeT.nil), ?_, by simp -implicitDefEqProofs, by simp -implicitDefEqProofs, rfl, rfl⟩) ?_
    · simp only [σ_put, σ_with, List.set_cons_succ, List.set_cons_zero, hB, hDD, hσL]
      rw [ren_chain nX' neXO hLc, hlen]
      exact (setO' hL).symm
    have pXX := fun x' g' => putX_X (σ := σL) (X := X) (O := O) (F := F) (A := A) (x := x') (g := g')
    have pFF := fun x' g' => putX_F (σ := σL) (x := x') (g := g') four
    have p2 := fun x' g' => (putX_other (σ := σL) (x := x') (g := g') pX' (show c + 2 ≠ O by omega) (show c + 2 ≠ F by omega) (show c + 2 ≠ A by omega)).trans hL2
    subst hB
    have d0 : x.f.length + 1 ≤ maxLen := by simp -implicitDefEqProofs [maxLen]; omega
    have d1 : (x.f.length + 1) * 40 ≤ 140737488355328 := by omega
    refine Tri.drawn ttok mix [0, 1, 2, 3, 4, 5, 6, 7, 8, 9, 10, 11] (by kernel_rfl) rfl ?_
    simp only [List.filterMap, List.map, List.getElem?_cons_succ, List.getElem?_cons_zero]
    refine OpsA.all (by simp -implicitDefEqProofs [pXX, pFF, p2, d0, d1, b00, xCells, neXO, neXF, neXA, neOF, neOA, neFA, neXO', neXF', neXA', neOF', neOA', neFA'] <;> rfl) ?_
    have hset := putX_setF (σ := σL) (x := { x with o := x.o.take k ++ [p] ++ x.o.drop k }) (g := { g with o := g.o + 1 }) four (f' := x.f ++ [⟨false, ⟨e.name, e.key, 0⟩⟩]) (gf := g.f + 1)
    have hSt : Stays c σ σL := by rw [← hσL]; exact Stays.new (by omega) (Stays.new (by omega) (Stays.refl _ _))
    have hcL : cutσ c σL = σ := by rw [← hσL, cutσ_new _ (by omega), cutσ_new _ (by omega), hσ]
    have kk := fin _ σL _ _ hset hSt hcL
    have hd : askX x e = { x with o := x.o.take k ++ [p] ++ x.o.drop k, f := x.f ++ [⟨false, ⟨e.name, e.key, 0⟩⟩] } := by simp -implicitDefEqProofs [askX, his, hkk, hp]
    refine fnPost.none (.inl rfl) rfl rfl ?_ ⟨rfl, { o := g.o + 1, f := g.f + 1, a := g.a }, ?_⟩
    · have := kk.1
      simpa [xCells, msgRow] using this
    · rw [hd]
      have := kk.2
      simpa [xCells, msgRow] using this
  · refine OpsA.all (by simp -implicitDefEqProofs [hn, ho, hf, ha, xCells, neXO, neXF, neXA, neOF, neOA, neFA, neXO', neXF', neXA', neOF', neOA', neFA', pX, pO, qX, qO, qX', pX', z12, z21, m1, m2, m3, m4, m5, m6, evAV, his] <;> rfl) ?_
    refine Tri.seq ?_
    refine Tri.seqX ttok rfl (by simp -implicitDefEqProofs [hn, ho, hf, ha, xCells, neXO, neXF, neXA, neOF, neOA, neFA, neXO', neXF', neXA', neOF', neOA', neFA', pX, pO, qX, qO, qX', pX', z12, z21, m1, m2, m3, m4, m5, m6, evAV, his] <;> rfl) ?_
    refine Tri.cond (b := true) (by simp -implicitDefEqProofs [hn, ho, hf, ha, xCells, neXO, neXF, neXA, neOF, neOA, neFA, neXO', neXF', neXA', neOF', neOA', neFA', pX, pO, qX, qO, qX', pX', z12, z21, m1, m2, m3, m4, m5, m6, evAV, his]) (fun _ => ?_) (fun h => by cases h)
    refine Tri.ret ?_
    refine fnPost.none (.inr rfl) rfl rfl (by simp -implicitDefEqProofs; exact Stays.new (by omega) (Stays.refl _ _)) ⟨rfl, g, ?_⟩
    rw [show askX x e = x by simp -implicitDefEqProofs [askX, his], h.self]
    simp [cutσ_new, hσ]
end Go.Proofs.Ytilpklkgmibpgaa
