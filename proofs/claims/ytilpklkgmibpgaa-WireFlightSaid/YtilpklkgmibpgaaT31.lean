import Derived.Test.YtilpklkgmibpgaaT30
namespace Go.Proofs.Ytilpklkgmibpgaa
open Go.Ab
set_option maxHeartbeats 400000
set_option linter.unusedVariables false
set_option linter.unusedSimpArgs false
attribute [local simp] tt3 tt4 tt9 tt22 tt24 tt30 tt31 tt36 tt42 tt55 tt57 tt63 tt71 tt72 tt74 tt77 tt81
attribute [local simp] eqA sliceEq rowsA fillR appendA AV.lt mapElem lookupA mapPutA mapDelA mapClearA lenA sliceA indexA nth buildA fillA placesA TI.zv nilEq fieldOfA
attribute [local simp] List.filter_cons


def deliverX (x : RW) (i : Int) : (Ev × Bool) × RW := match (if 0 ≤ i then x.f[i.toNat]? else none) with
  | none => ((⟨[], 0, 0⟩, false), x)
  | some m =>
    let x1 := dropX x i
    if m.back = true then (if isK x1.o m.ev.key = true then ((m.ev, true), forgetX x1 m.ev.key) else ((⟨[], 0, 0⟩, false), x1))
    else
      let x2 := applyX x1 m.ev
      ((⟨[], 0, 0⟩, false), { x2 with f := x2.f ++ [⟨true, ⟨m.ev.name, m.ev.key, valX x1 m.ev⟩⟩] })
theorem deliverX_out {x : RW} {i : Int} (h : ¬ (0 ≤ i ∧ i < x.f.length)) : deliverX x i = ((⟨[], 0, 0⟩, false), x) := by
  unfold deliverX
  split
  · rfl
  · rename_i m hm
    exfalso
    split at hm
    · rw [List.getElem?_eq_none (by omega)] at hm; cases hm
    · cases hm
theorem applyX_f (x : RW) (e : Ev) : (applyX x e).f = x.f := by unfold applyX; split <;> rfl
theorem applyX_o (x : RW) (e : Ev) : (applyX x e).o = x.o := by unfold applyX; split <;> rfl
theorem applyX_v (x : RW) (e : Ev) : (applyX x e).v = x.v := by unfold applyX; split <;> rfl
theorem applyX_c (x : RW) (e : Ev) : (applyX x e).clock = x.clock := by unfold applyX; split <;> rfl
theorem applyX_a (x : RW) (e : Ev) : (applyX x e).a.length ≤ x.a.length + 1 := by unfold applyX; split <;> simp
theorem call_xdeliver29 {σ : Nat → Option AO} {X O F A : Nat} {x : RW} {g : Gens} (h : IsX σ X O F A x g) {i : Int} (hal : x.a.length < 900000) : CallA Try.prog 29 [.ptr X 0, .int .i64 i] σ [] fun r σ' => r = .tup [evAV (deliverX x i).1.1, .bool (deliverX x i).1.2] ∧ ∃ g', σ' = putX σ X O F A (deliverX x i).2 g' := by
  refine CallA.of ttok Try.func29 rfl (show 2 ≤ 71 by decide) fun c hF => ?_
  refine Tri.fresh (Tri.fresh ?_)
  have hσ : cutσ c σ = σ := cutσ_self fun n hn => (hF.good.2 n hn : σ n = none)
  have hn := h.n
  have ho := h.o
  have hf := h.f
  have ha := h.a
  have hXc : X < c := (hF.σ X _ h.n).1
  have hOc : O < c := (hF.σ O _ h.o).1
  have hFc : F < c := (hF.σ F _ h.f).1
  have hAc : A < c := (hF.σ A _ h.a).1
  have four := h.four
  have neXO := four.xo
  have neXF := four.xf
  have neXA := four.xa
  have neOF := four.of
  have neOA := four.oa
  have neFA := four.fa
  have neXO' := four.xo.symm
  have neXF' := four.xf.symm
  have neXA' := four.xa.symm
  have neOF' := four.of.symm
  have neOA' := four.oa.symm
  have neFA' := four.fa.symm
  have nX : X ≠ c := by omega
  have nO : O ≠ c := by omega
  have nF : F ≠ c := by omega
  have nA : A ≠ c := by omega
  have pX : X ≠ c + 1 := by omega
  have pO : O ≠ c + 1 := by omega
  have pF : F ≠ c + 1 := by omega
  have pA : A ≠ c + 1 := by omega
  have nc : c ≠ c + 1 := by omega
  have nc' : c + 1 ≠ c := by omega
  have oc0 := fun (σ' : Nat → Option AO) (x' : RW) (g' : Gens) => putX_other (σ := σ') (x := x') (g := g') nX.symm nO.symm nF.symm nA.symm
  have oc1 := fun (σ' : Nat → Option AO) (x' : RW) (g' : Gens) => putX_other (σ := σ') (x := x') (g := g') pX.symm pO.symm pF.symm pA.symm
  have u0 := fun (σ' : Nat → Option AO) (x' : RW) (g' : Gens) (y : Option AO) => putX_upd (σ := σ') (x := x') (g := g') (y := y) nX.symm nO.symm nF.symm nA.symm
  have u1 := fun (σ' : Nat → Option AO) (x' : RW) (g' : Gens) (y : Option AO) => putX_upd (σ := σ') (x := x') (g := g') (y := y) pX.symm pO.symm pF.symm pA.symm
  have hL : ∀ y z, IsX (upd (upd σ c y) (c + 1) z) X O F A x g := fun y z => ⟨by rw [upd_ne _ _ pX, upd_ne _ _ nX]; exact hn, by rw [upd_ne _ _ pO, upd_ne _ _ nO]; exact ho, by rw [upd_ne _ _ pF, upd_ne _ _ nF]; exact hf, by rw [upd_ne _ _ pA, upd_ne _ _ nA]; exact ha, h.vl, h.ol, h.fl, h.al, h.ck⟩
  refine Tri.seqR ttok rfl ?_
  refine OpsA.new (c) rfl (by simp -implicitDefEqProofs [nX, nO, nF, nA, pX, pO, pF, pA, nc, nc', hn, ho, hf, ha, xCells] <;> rfl) (by simp -implicitDefEqProofs) (by simp -implicitDefEqProofs <;> rfl) ?_
  refine OpsA.all (by simp -implicitDefEqProofs [nX, nO, nF, nA, pX, pO, pF, pA, nc, nc', hn, ho, hf, ha, xCells] <;> rfl) ?_
  rcases (show i < 0 ∨ (¬ i < 0 ∧ (x.f.length : Int) ≤ i) ∨ (¬ i < 0 ∧ ¬ (x.f.length : Int) ≤ i) by omega) with hi | ⟨hi, hi2⟩ | ⟨hi, hi2⟩
  · have hout : ¬ (0 ≤ i ∧ i < x.f.length) := by omega
    refine Tri.seq ?_
    refine Tri.seqR ttok rfl ?_
    refine OpsA.allG (by simp -implicitDefEqProofs [nX, nO, nF, nA, pX, pO, pF, pA, nc, nc', hn, ho, hf, ha, xCells, hi] <;> rfl) ?_
    refine Tri.cond (b := true) (by simp -implicitDefEqProofs [nX, nO, nF, nA, pX, pO, pF, pA, nc, nc', hn, ho, hf, ha, xCells, hi]) (fun _ => ?_) (fun h => by cases h)
    refine Tri.seqX ttok rfl (by simp -implicitDefEqProofs [nX, nO, nF, nA, pX, pO, pF, pA, nc, nc', hn, ho, hf, ha, xCells, hi] <;> rfl) ?_
    refine Tri.ret ?_
    refine ⟨_, Gh.refl _, .inr rfl, rfl, [evAV ⟨[], 0, 0⟩, .bool false], ?_, ⟨⟨trivial, trivial, trivial, trivial⟩, trivial, trivial⟩, ?_, ?_, g, ?_⟩
    · show resA tt _ _ [.cell 4 30, .tmp 5] = _
      simp [evAV, oc0, oc1, u0, u1, nc, nc']
    · simp only [σ_put, σ_with, u0, u1]
      first | (refine Stays.putX hOc hFc hAc ?_) | skip
      repeat (first | exact Stays.refl _ _ | refine Stays.new (by omega) ?_)
    · simp [deliverX_out hout]
    · simp only [σ_put, σ_with, u0, u1]
      try rw [cut_putX hXc hOc hFc hAc]
      repeat rw [cutσ_new _ (by omega)]
      rw [deliverX_out hout, h.self, hσ]
  · have hout : ¬ (0 ≤ i ∧ i < x.f.length) := by omega
    refine Tri.seq ?_
    refine Tri.seqR ttok rfl ?_
    refine OpsA.allG (by simp -implicitDefEqProofs [nX, nO, nF, nA, pX, pO, pF, pA, nc, nc', hn, ho, hf, ha, xCells, hi, hi2] <;> rfl) ?_
    refine Tri.cond (b := true) (by simp -implicitDefEqProofs [nX, nO, nF, nA, pX, pO, pF, pA, nc, nc', hn, ho, hf, ha, xCells, hi, hi2]) (fun _ => ?_) (fun h => by cases h)
    refine Tri.seqX ttok rfl (by simp -implicitDefEqProofs [nX, nO, nF, nA, pX, pO, pF, pA, nc, nc', hn, ho, hf, ha, xCells, hi, hi2] <;> rfl) ?_
    refine Tri.ret ?_
    refine ⟨_, Gh.refl _, .inr rfl, rfl, [evAV ⟨[], 0, 0⟩, .bool false], ?_, ⟨⟨trivial, trivial, trivial, trivial⟩, trivial, trivial⟩, ?_, ?_, g, ?_⟩
    · show resA tt _ _ [.cell 4 30, .tmp 5] = _
      simp [evAV, oc0, oc1, u0, u1, nc, nc']
    · simp only [σ_put, σ_with, u0, u1]
      first | (refine Stays.putX hOc hFc hAc ?_) | skip
      repeat (first | exact Stays.refl _ _ | refine Stays.new (by omega) ?_)
    · simp [deliverX_out hout]
    · simp only [σ_put, σ_with, u0, u1]
      try rw [cut_putX hXc hOc hFc hAc]
      repeat rw [cutσ_new _ (by omega)]
      rw [deliverX_out hout, h.self, hσ]
  · refine Tri.seq ?_
    refine Tri.seqR ttok rfl ?_
    refine OpsA.allG (by simp -implicitDefEqProofs [nX, nO, nF, nA, pX, pO, pF, pA, nc, nc', hn, ho, hf, ha, xCells, hi, hi2] <;> rfl) ?_
    refine Tri.cond (b := false) (by simp -implicitDefEqProofs [nX, nO, nF, nA, pX, pO, pF, pA, nc, nc', hn, ho, hf, ha, xCells, hi, hi2]) (fun h => by cases h) (fun _ => ?_)
    obtain ⟨k, rfl⟩ : ∃ k : Nat, i = k := ⟨i.toNat, by omega⟩
    have hk : k < x.f.length := by omega
    obtain ⟨m, hm⟩ : ∃ v, x.f[k]'(hk) = v := ⟨_, rfl⟩
    have hm' : x.f[k]? = some m := by rw [List.getElem?_eq_getElem (hk), hm]
    have hd : dropX x k = { x with f := x.f.eraseIdx k } := by rw [dropX, if_pos (by omega)]; rfl
    have hdl : (dropX x k).f.length < x.f.length := by rw [hd]; simp [List.length_eraseIdx, hk]; omega
    have hdo : (dropX x k).o = x.o := by rw [hd]
    have hda : (dropX x k).a = x.a := by rw [hd]
    have hfl := h.fl
    have hwd : ∀ σ' g', IsX (putX σ' X O F A (dropX x k) g') X O F A (dropX x k) g' := fun σ' g' => IsX.put four (by rw [hd]; exact h.vl) (by rw [hd]; exact h.ol) (by omega) (by rw [hd]; exact h.al) (by rw [hd]; exact h.ck)
    have hap := fun (σ' : Nat → Option AO) (g' : Gens) => call_xapply50 (e := m.ev) (hwd σ' g') (by rw [hda]; exact hal)
    have hwv : ∀ σ' g', IsX (putX σ' X O F A (applyX (dropX x k) m.ev) g') X O F A (applyX (dropX x k) m.ev) g' := fun σ' g' => IsX.put four (by rw [applyX_v, hd]; exact h.vl) (by rw [applyX_o, hd]; exact h.ol) (by rw [applyX_f]; omega) (by have := applyX_a (dropX x k) m.ev; rw [hda] at this; omega) (by rw [applyX_c, hd]; exact h.ck)
    skip
    refine Tri.skip ?_
    refine Tri.seqR ttok rfl ?_
    refine OpsA.runX 7 (by simp -implicitDefEqProofs [nX, nO, nF, nA, pX, pO, pF, pA, nc, nc', hn, ho, hf, ha, xCells, hi, hi2, hk, hm, hm', msgRow] <;> rfl) ?_
    simp only [List.drop]
    refine OpsA.new (c + 1) rfl (by simp -implicitDefEqProofs [nX, nO, nF, nA, pX, pO, pF, pA, nc, nc', hn, ho, hf, ha, xCells, hi, hi2, hk, hm, hm', msgRow] <;> rfl) (by simp -implicitDefEqProofs) (by simp -implicitDefEqProofs <;> rfl) ?_
    refine OpsA.all (by simp -implicitDefEqProofs [nX, nO, nF, nA, pX, pO, pF, pA, nc, nc', hn, ho, hf, ha, xCells, hi, hi2, hk, hm, hm', msgRow] <;> rfl) ?_
    refine Tri.seqR ttok rfl ?_
    refine OpsA.runX 2 (by simp -implicitDefEqProofs [nX, nO, nF, nA, pX, pO, pF, pA, nc, nc', hn, ho, hf, ha, xCells, hi, hi2, hk, hm, hm', msgRow] <;> rfl) ?_
    simp only [List.drop]
    refine OpsA.call (call_xdrop30 (hL _ _) (i := (k : Int))) rfl (by simp -implicitDefEqProofs [nX, nO, nF, nA, pX, pO, pF, pA, nc, nc', hn, ho, hf, ha, xCells, hi, hi2, hk, hm, hm', msgRow] <;> rfl) (by kernel_rfl) (by simp -implicitDefEqProofs) rfl ?_
    rintro x_ σ' ⟨rfl, g1, rfl⟩
    refine OpsA.nil ?_
    cases hb : m.back
    · refine Tri.seq ?_
      refine Tri.seqX ttok rfl (by simp -implicitDefEqProofs [oc0, oc1, u0, u1, evAV, nc, nc', nX, nO, nF, nA, pX, pO, pF, pA, hb] <;> rfl) ?_
      refine Tri.cond (b := true) (by simp -implicitDefEqProofs [oc0, oc1, u0, u1, evAV, nc, nc', nX, nO, nF, nA, pX, pO, pF, pA, hb]) (fun _ => ?_) (fun h => by cases h)
      refine Tri.seqR ttok rfl ?_
      refine OpsA.runX 3 (by simp -implicitDefEqProofs [oc0, oc1, u0, u1, evAV, nc, nc', nX, nO, nF, nA, pX, pO, pF, pA, hb] <;> rfl) ?_
      simp only [List.drop]
      refine OpsA.call (hap _ _) rfl (by simp -implicitDefEqProofs [oc0, oc1, u0, u1, evAV, nc, nc', nX, nO, nF, nA, pX, pO, pF, pA, hb] <;> rfl) (by kernel_rfl) (by simp -implicitDefEqProofs) rfl ?_
      rintro x_ σ' ⟨rfl, g2, rfl⟩
      refine OpsA.all (by simp -implicitDefEqProofs [oc0, oc1, u0, u1, evAV, nc, nc', nX, nO, nF, nA, pX, pO, pF, pA, hb] <;> rfl) ?_
      refine Tri.gh (Le.gh (s' := { t := tl [(0, .ptr X 0), (4, .ptr c 0), (6, .ptr (c + 1) 0)], σ := putX (upd (upd σ c (some (.cells 30 [.str [], .int .i64 0, .int .i64 0]))) (c + 1) (some (.cells 77 [.bool false, .str m.ev.name, .int .i64 m.ev.key, .int .i64 (valX (dropX x k) m.ev)]))) X O F A (applyX (dropX x k) m.ev) g2, c := c + 2, fr := [], m := 71, ds := [] }) ⟨LeT.cons (by simp -implicitDefEqProofs) (LeT.cons (by simp -implicitDefEqProofs) (LeT.cons (by simp -implicitDefEqProofs) LeT.nil)), ?_, by simp -implicitDefEqProofs, by simp -implicitDefEqProofs, rfl, rfl⟩) ?_
      · simp [putX_put four, u1, upd_idem]
      have pXX := fun (σ' : Nat → Option AO) x' g' => putX_X (σ := σ') (X := X) (O := O) (F := F) (A := A) (x := x') (g := g')
      have pFF := fun (σ' : Nat → Option AO) x' g' => putX_F (σ := σ') (x := x') (g := g') four
      obtain ⟨y, hy⟩ : ∃ y, applyX (dropX x k) m.ev = y := ⟨_, rfl⟩
      have hyf : y.f = (dropX x k).f := by rw [← hy, applyX_f]
      have b0 : 1 ≤ maxLen := by simp -implicitDefEqProofs [maxLen]
      have b1 : (dropX x k).f.length + 1 ≤ maxLen := by simp -implicitDefEqProofs [maxLen]; omega
      have b2 : ((dropX x k).f.length + 1) * 40 ≤ 140737488355328 := by omega
      simp only [hy]
      refine Tri.seqD ttok mix [0, 1, 2, 3, 5, 4, 6, 7, 8, 9, 10, 11, 12] (by kernel_rfl) rfl ?_
      simp only [List.filterMap, List.map, List.getElem?_cons_succ, List.getElem?_cons_zero]
      refine OpsA.all (by simp -implicitDefEqProofs [oc0, oc1, u0, u1, evAV, nc, nc', nX, nO, nF, nA, pX, pO, pF, pA, hb, pXX, pFF, xCells, hyf, b0, b1, b2, neXO, neXF, neXA, neOF, neOA, neFA, neXO', neXF', neXA', neOF', neOA', neFA'] <;> rfl) ?_
      refine Tri.gh (Le.gh (s' := { t := tl [(0, .ptr X 0), (4, .ptr c 0), (6, .ptr (c + 1) 0)], σ := putX (upd (upd σ c (some (.cells 30 [.str [], .int .i64 0, .int .i64 0]))) (c + 1) (some (.cells 77 [.bool false, .str m.ev.name, .int .i64 m.ev.key, .int .i64 (valX (dropX x k) m.ev)]))) X O F A { y with f := y.f ++ [⟨true, ⟨m.ev.name, m.ev.key, valX (dropX x k) m.ev⟩⟩] } { g2 with f := g2.f + 1 }, c := c + 2, fr := [], m := 71, ds := [] }) ⟨LeT.cons (by simp -implicitDefEqProofs) (LeT.cons (by simp -implicitDefEqProofs) (LeT.cons (by simp -implicitDefEqProofs) LeT.nil)), ?_, by simp -implicitDefEqProofs, by simp -implicitDefEqProofs, rfl, rfl⟩) ?_
      · rw [← putX_setF four]
        simp [xCells, msgRow, hyf]
      refine Tri.seqX ttok rfl (by simp -implicitDefEqProofs [oc0, oc1, u0, u1, evAV, nc, nc', nX, nO, nF, nA, pX, pO, pF, pA, hb, pXX, pFF, xCells, hyf, b0, b1, b2, neXO, neXF, neXA, neOF, neOA, neFA, neXO', neXF', neXA', neOF', neOA', neFA'] <;> rfl) ?_
      refine Tri.ret ?_
      refine ⟨_, Gh.refl _, .inr rfl, rfl, [evAV ⟨[], 0, 0⟩, .bool false], ?_, ⟨⟨trivial, trivial, trivial, trivial⟩, trivial, trivial⟩, ?_, ?_, { g2 with f := g2.f + 1 }, ?_⟩
      · show resA tt _ _ [.cell 4 30, .tmp 5] = _
        simp [evAV, oc0, oc1, u0, u1, nc, nc']
      · simp only [σ_put, σ_with, u0, u1]
        first | (refine Stays.putX hOc hFc hAc ?_) | skip
        repeat (first | exact Stays.refl _ _ | refine Stays.new (by omega) ?_)
      · simp [deliverX, hk, hm', hm, hb]
      · simp only [σ_put, σ_with, u0, u1]
        try rw [cut_putX hXc hOc hFc hAc]
        repeat rw [cutσ_new _ (by omega)]
        simp [deliverX, hk, hm', hm, hb, hσ, hy, hyf]
    · refine Tri.seq ?_
      refine Tri.seqX ttok rfl (by simp -implicitDefEqProofs [oc0, oc1, u0, u1, evAV, nc, nc', nX, nO, nF, nA, pX, pO, pF, pA, hb] <;> rfl) ?_
      refine Tri.cond (b := false) (by simp -implicitDefEqProofs [oc0, oc1, u0, u1, evAV, nc, nc', nX, nO, nF, nA, pX, pO, pF, pA, hb]) (fun h => by cases h) (fun _ => ?_)
      refine Tri.skip ?_
      refine Tri.seq ?_
      refine Tri.seqR ttok rfl ?_
      refine OpsA.runX 4 (by simp -implicitDefEqProofs [oc0, oc1, u0, u1, evAV, nc, nc', nX, nO, nF, nA, pX, pO, pF, pA, hb] <;> rfl) ?_
      simp only [List.drop]
      refine OpsA.call (call_find51 (hwd _ _)) rfl (by simp -implicitDefEqProofs [oc0, oc1, u0, u1, evAV, nc, nc', nX, nO, nF, nA, pX, pO, pF, pA, hb] <;> rfl) (by kernel_rfl) (by simp -implicitDefEqProofs) rfl ?_
      rintro x_ σ1 ⟨rfl, h1⟩
      obtain rfl := h1.symm
      clear h1
      refine OpsA.all (by simp -implicitDefEqProofs [oc0, oc1, u0, u1, evAV, nc, nc', nX, nO, nF, nA, pX, pO, pF, pA, hb] <;> rfl) ?_
      cases his : isK (dropX x k).o m.ev.key
      · refine Tri.seqX ttok rfl (by simp -implicitDefEqProofs [oc0, oc1, u0, u1, evAV, nc, nc', nX, nO, nF, nA, pX, pO, pF, pA, hb, his] <;> rfl) ?_
        refine Tri.cond (b := true) (by simp -implicitDefEqProofs [oc0, oc1, u0, u1, evAV, nc, nc', nX, nO, nF, nA, pX, pO, pF, pA, hb, his]) (fun _ => ?_) (fun h => by cases h)
        refine Tri.seqX ttok rfl (by simp -implicitDefEqProofs [oc0, oc1, u0, u1, evAV, nc, nc', nX, nO, nF, nA, pX, pO, pF, pA, hb, his] <;> rfl) ?_
        refine Tri.ret ?_
        refine ⟨_, Gh.refl _, .inr rfl, rfl, [evAV ⟨[], 0, 0⟩, .bool false], ?_, ⟨⟨trivial, trivial, trivial, trivial⟩, trivial, trivial⟩, ?_, ?_, g1, ?_⟩
        · show resA tt _ _ [.cell 4 30, .tmp 5] = _
          simp [evAV, oc0, oc1, u0, u1, nc, nc']
        · simp only [σ_put, σ_with, u0, u1]
          first | (refine Stays.putX hOc hFc hAc ?_) | skip
          repeat (first | exact Stays.refl _ _ | refine Stays.new (by omega) ?_)
        · simp [deliverX, hk, hm', hm, hb, his]
        · simp only [σ_put, σ_with, u0, u1]
          try rw [cut_putX hXc hOc hFc hAc]
          repeat rw [cutσ_new _ (by omega)]
          simp [deliverX, hk, hm', hm, hb, his, hσ]
      · refine Tri.seqX ttok rfl (by simp -implicitDefEqProofs [oc0, oc1, u0, u1, evAV, nc, nc', nX, nO, nF, nA, pX, pO, pF, pA, hb, his] <;> rfl) ?_
        refine Tri.cond (b := false) (by simp -implicitDefEqProofs [oc0, oc1, u0, u1, evAV, nc, nc', nX, nO, nF, nA, pX, pO, pF, pA, hb, his]) (fun h => by cases h) (fun _ => ?_)
        refine Tri.skip ?_
        refine Tri.seqR ttok rfl ?_
        refine OpsA.runX 4 (by simp -implicitDefEqProofs [oc0, oc1, u0, u1, evAV, nc, nc', nX, nO, nF, nA, pX, pO, pF, pA, hb, his] <;> rfl) ?_
        simp only [List.drop]
        refine OpsA.call (call_xforget45 (hwd _ _)) rfl (by simp -implicitDefEqProofs [oc0, oc1, u0, u1, evAV, nc, nc', nX, nO, nF, nA, pX, pO, pF, pA, hb, his] <;> rfl) (by kernel_rfl) (by simp -implicitDefEqProofs) rfl ?_
        rintro x_ σ' ⟨rfl, g2, rfl⟩
        refine OpsA.nil ?_
        simp only [putX_put four]
        refine Tri.seqX ttok rfl (by simp -implicitDefEqProofs [oc0, oc1, u0, u1, evAV, nc, nc', nX, nO, nF, nA, pX, pO, pF, pA, hb, his] <;> rfl) ?_
        refine Tri.ret ?_
        refine ⟨_, Gh.refl _, .inr rfl, rfl, [evAV m.ev, .bool true], ?_, ⟨⟨trivial, trivial, trivial, trivial⟩, trivial, trivial⟩, ?_, ?_, g2, ?_⟩
        · show resA tt _ _ [.cell 4 30, .tmp 5] = _
          simp [evAV, oc0, oc1, u0, u1, nc, nc']
        · simp only [σ_put, σ_with, u0, u1]
          first | (refine Stays.putX hOc hFc hAc ?_) | skip
          repeat (first | exact Stays.refl _ _ | refine Stays.new (by omega) ?_)
        · simp [deliverX, hk, hm', hm, hb, his]
        · simp only [σ_put, σ_with, u0, u1]
          try rw [cut_putX hXc hOc hFc hAc]
          repeat rw [cutσ_new _ (by omega)]
          simp [deliverX, hk, hm', hm, hb, his, hσ]
end Go.Proofs.Ytilpklkgmibpgaa
