import Derived.Test.YtilpklkgmibpgaaT34
namespace Go.Proofs.Ytilpklkgmibpgaa
open Go.Ab
set_option maxHeartbeats 400000
set_option linter.unusedVariables false
set_option linter.unusedSimpArgs false
attribute [local simp] tt3 tt4 tt9 tt22 tt24 tt30 tt31 tt36 tt42 tt55 tt57 tt63 tt71 tt72 tt74 tt77 tt81
attribute [local simp] eqA sliceEq rowsA fillR appendA AV.lt mapElem lookupA mapPutA mapDelA mapClearA lenA sliceA indexA nth buildA fillA placesA TI.zv nilEq fieldOfA
attribute [local simp] List.filter_cons
set_option maxHeartbeats 4000000
set_option maxRecDepth 4000
attribute [local simp] tt75

section
open Go.RowKit
variable {P : Program} {tt : Nat → Option TI} {r : Option Nat}
theorem AnyW.op2 {ops : Array Oper} (i j : Nat) {oi oj : Oper} {f : Nat} {listed : Array Bool} {pr : List Nat} {st : AS} {K : AS → Prop} (hi : ops[i]? = some oi) (hj : ops[j]? = some oj) (hr : (Region.ready .any ops listed == [i, j]) = true) (pi pj : List Nat) (hpi : (prune ops i pr == pi) = true) (hpj : (prune ops j pr == pj) = true) (hw : Wat tt ops pr st)
    (Hi : OpA P tt (ops.toList.map (·.dst)) st oi fun s => AnyW P tt ops f (listed.setIfInBounds i true) pi s K) (Hj : OpA P tt (ops.toList.map (·.dst)) st oj fun s => AnyW P tt ops f (listed.setIfInBounds j true) pj s K) : AnyW P tt ops (f + 1) listed pr st K := fun hg => by
  have e0 : prune ops i pr = pi := by simpa using hpi
  have e1 : prune ops j pr = pj := by simpa using hpj
  rw [← e0] at Hi
  rw [← e1] at Hj
  have e : Region.ready .any ops listed = [i, j] := by simpa using hr
  refine ⟨hw, fun h => (by rw [e] at h; cases h), fun k hk => ?_⟩
  rw [e] at hk
  simp only [List.mem_cons, List.not_mem_nil, or_false] at hk
  rcases hk with rfl | rfl
  · exact ⟨oi, hi, Hi⟩
  · exact ⟨oj, hj, Hj⟩
end

theorem both_congr {c0 n : Nat} {σ σ' : Nat → Option AO} {w : Wire} {x : RW} {g : Gens} (h : σ' n = σ n) : both c0 σ' w x g n = both c0 σ w x g n := by
  unfold both putX putL putW
  simp only [upd, h]
theorem both_stays {c0 c : Nat} {σ σ' : Nat → Option AO} {w w' : Wire} {x x' : RW} {g g' : Gens} (hc : c0 + 7 ≤ c) (hs : ∀ n, n < c → σ' n = σ n) : Stays c (both c0 σ w x g) (both c0 σ' w' x' g') := fun n o hn h1 => by
  rw [both_congr (hs n hn)] at h1
  refine (?_ : Stays c (both c0 σ w x g) (both c0 σ w' x' g')) n o hn h1
  rw [← both_x (σ := σ) (w := w') (x := x) (g := g), ← both_w (σ := σ) (w := w) (w' := w')]
  exact Stays.putX (by omega) (by omega) (by omega) (Stays.putW (by omega) (by omega) (Stays.refl _ _))
theorem both_cut {c0 c : Nat} {σ : Nat → Option AO} {w : Wire} {x : RW} {g : Gens} (hc : c0 + 7 ≤ c) : cutσ c (both c0 σ w x g) = both c0 (cutσ c σ) w x g := by
  show cutσ c (putX (putL c0 σ w) _ _ _ _ _ _) = _
  rw [cut_putX (by omega) (by omega) (by omega) (by omega)]
  show putX (cutσ c (putW σ _ _ _ w)) _ _ _ _ _ _ = _
  rw [cut_putW (by omega) (by omega) (by omega)]
  rfl
theorem call_step27 {c0 k : Nat} {σ : Nat → Option AO} {w : Wire} {x : RW} {g : Gens} {n0 : Int} {vs : List Int} (h : Bd vs k w x) (hk : k ≤ 150) : CallA Try.prog 27 [.ptr (c0 + 2) 0, .ptr (c0 + 6) 0, .int .i64 n0] (both c0 σ w x g) [] fun r σ' => r = .bool true ∧ ∃ w' x' g', σ' = both c0 σ w' x' g' ∧ Bd vs (k + 1) w' x' := by
  refine CallA.of ttok Try.func27 rfl (show 3 ≤ 116 by decide) fun c hF => ?_
  refine Tri.fresh (Tri.fresh ?_)
  have hXX : both c0 σ w x g (c0 + 6) = _ := putX_X
  have hXc : c0 + 6 < c := (hF.σ (c0 + 6) _ hXX).1
  have hbk : k ≤ 200 := by omega
  have hcσ : cutσ c σ = σ := cutσ_self fun n hn => by
    have e : both c0 σ w x g n = σ n := both_at (by omega)
    rw [← e]; exact hF.good.2 n hn
  have u0 := fun (σ' : Nat → Option AO) (w' : Wire) (x' : RW) (g' : Gens) (y : Option AO) => both_upd (c := c0) (σ := σ') (w := w') (x := x') (g := g') (y := y) (show c0 + 7 ≤ c by omega)
  have u1 := fun (σ' : Nat → Option AO) (w' : Wire) (x' : RW) (g' : Gens) (y : Option AO) => both_upd (c := c0) (σ := σ') (w := w') (x := x') (g := g') (y := y) (show c0 + 7 ≤ c + 1 by omega)
  have at0 := fun (σ' : Nat → Option AO) (w' : Wire) (x' : RW) (g' : Gens) => both_at (c := c0) (σ := σ') (w := w') (x := x') (g := g') (show c0 + 7 ≤ c by omega)
  have at1 := fun (σ' : Nat → Option AO) (w' : Wire) (x' : RW) (g' : Gens) => both_at (c := c0) (σ := σ') (w := w') (x := x') (g := g') (show c0 + 7 ≤ c + 1 by omega)
  have nc : c ≠ c + 1 := by omega
  have nc' : c + 1 ≠ c := by omega
  have hfl := h.fl
  have m2 : 2 ≤ maxLen := by simp -implicitDefEqProofs [maxLen]
  refine Tri.seqX ttok rfl (by simp -implicitDefEqProofs [hXX, xCells, nc, nc', u0, u1, at0, at1, m2] <;> rfl) ?_
  refine Tri.seqX ttok rfl (by simp -implicitDefEqProofs [hXX, xCells, nc, nc', u0, u1, at0, at1, m2] <;> rfl) ?_
  obtain ⟨q, hq⟩ : ∃ q, IntKind.i64.wrap (n0.tdiv 12) = q := ⟨_, rfl⟩
  try simp only [hq]
  have e1 : IntKind.i64.wrap ((x.f.length : Int) + 2) = (x.f.length : Int) + 2 := wrap_id (by omega) (by omega)
  refine Tri.seqR ttok rfl ?_
  refine OpsA.runX 7 (by simp -implicitDefEqProofs [hXX, xCells, nc, nc', u0, u1, at0, at1, m2, e1] <;> rfl) ?_
  simp only [List.drop]
  refine OpsA.call (call_withinB (a := q) (n := (x.f.length : Int) + 2) (by omega) (by omega)) rfl (by simp -implicitDefEqProofs [hXX, xCells, nc, nc', u0, u1, at0, at1, m2, e1] <;> rfl) (by kernel_rfl) (by simp -implicitDefEqProofs) rfl ?_
  rintro x σ' ⟨rfl, rfl⟩
  refine OpsA.all (by simp -implicitDefEqProofs [hXX, xCells, nc, nc', u0, u1, at0, at1, m2, e1] <;> rfl) ?_
  obtain ⟨i, hi⟩ : ∃ i, IntKind.i64.wrap (within q ((x.f.length : Int) + 2) - 1) = i := ⟨_, rfl⟩
  try simp only [hi]
  refine Tri.seq ?_
  refine Tri.seqR ttok rfl ?_
  refine OpsA.runX 1 (by simp -implicitDefEqProofs [hXX, xCells, nc, nc', u0, u1, at0, at1, m2, e1] <;> rfl) ?_
  simp only [List.drop]
  refine OpsA.call (call_withinB (a := n0) (n := 12) (by omega) (by omega)) rfl (by simp -implicitDefEqProofs [hXX, xCells, nc, nc', u0, u1, at0, at1, m2, e1] <;> rfl) (by kernel_rfl) (by simp -implicitDefEqProofs) rfl ?_
  rintro x σ' ⟨rfl, rfl⟩
  obtain ⟨m, hm⟩ : ∃ m, within n0 12 = m := ⟨_, rfl⟩
  have hmb := within_bounds n0 (n := 12) (by omega)
  simp only [hm] at hmb ⊢
  rcases (show m = 0 ∨ m = 1 ∨ m = 2 ∨ m = 3 ∨ m = 4 ∨ m = 5 ∨ m = 6 ∨ m = 7 ∨ m = 8 ∨ m = 9 ∨ m = 10 ∨ m = 11 by omega) with rfl | rfl | rfl | rfl | rfl | rfl | rfl | rfl | rfl | rfl | rfl | rfl
  · refine OpsA.nil ?_
    try simp only [hm']
    refine Tri.block ?_
    refine Tri.seq ?_
    refine Tri.seqX ttok rfl (by simp -implicitDefEqProofs [hXX, xCells, nc, nc', u0, u1, at0, at1, m2, e1] <;> rfl) ?_
    refine Tri.cond (b := true) (by simp -implicitDefEqProofs [hXX, xCells, nc, nc', u0, u1, at0, at1, m2, e1]) (fun _ => ?_) (fun h => by cases h)
    refine Tri.skip ?_
    refine Tri.cond (b := true) (by simp -implicitDefEqProofs [hXX, xCells, nc, nc', u0, u1, at0, at1, m2, e1]) (fun _ => ?_) (fun h => by cases h)
    rcases (show within q 2 = 0 ∨ within q 2 = 1 by have := within_bounds q (n := 2) (by omega); omega) with hw2 | hw2
    · refine Tri.seq (Tri.drawW ttok mix rfl ?_)
      refine AnyW.take 1 rfl (by kernel_rfl) (by kernel_rfl) rfl (by simp -implicitDefEqProofs [hXX, xCells, nc, nc', u0, u1, at0, at1, m2, e1, evAV] <;> rfl) ?_
      refine AnyW.take 5 rfl (by kernel_rfl) (by kernel_rfl) rfl (by simp -implicitDefEqProofs [hXX, xCells, nc, nc', u0, u1, at0, at1, m2, e1, evAV] <;> rfl) ?_
      refine AnyW.take 8 rfl (by kernel_rfl) (by kernel_rfl) rfl (by simp -implicitDefEqProofs [hXX, xCells, nc, nc', u0, u1, at0, at1, m2, e1, evAV] <;> rfl) ?_
      refine AnyW.readX 0 rfl (by kernel_rfl) rfl (by simp -implicitDefEqProofs [hXX, xCells, nc, nc', u0, u1, at0, at1, m2, e1, evAV] <;> rfl) ?_
      refine AnyW.readX 6 rfl (by kernel_rfl) rfl (by simp -implicitDefEqProofs [hXX, xCells, nc, nc', u0, u1, at0, at1, m2, e1, evAV] <;> rfl) ?_
      refine AnyW.readX 9 rfl (by kernel_rfl) rfl (by simp -implicitDefEqProofs [hXX, xCells, nc, nc', u0, u1, at0, at1, m2, e1, evAV] <;> rfl) ?_
      refine AnyW.op2 2 11 rfl rfl (by kernel_rfl) [9, 6, 0] [9, 6, 0] (by kernel_rfl) (by kernel_rfl) (Wat.cons rfl rfl rfl (by simp -implicitDefEqProofs [hXX, xCells, nc, nc', u0, u1, at0, at1, m2, e1, evAV] <;> rfl) (Wat.cons rfl rfl rfl (by simp -implicitDefEqProofs [hXX, xCells, nc, nc', u0, u1, at0, at1, m2, e1, evAV] <;> rfl) (Wat.cons rfl rfl rfl (by simp -implicitDefEqProofs [hXX, xCells, nc, nc', u0, u1, at0, at1, m2, e1, evAV] <;> rfl) (Wat.nil)))) ?_ ?_
      · show OpsA _ _ _ [_] _ _
        refine OpsA.call (call_withinB (a := q) (n := 2) (by omega) (by omega)) rfl (by simp -implicitDefEqProofs [hXX, xCells, nc, nc', u0, u1, at0, at1, m2, e1, evAV] <;> rfl) (by kernel_rfl) (by simp -implicitDefEqProofs) rfl ?_
        rintro x σ' ⟨rfl, rfl⟩
        rw [hw2]
        refine OpsA.nil ?_
        refine AnyW.readX 3 rfl (by kernel_rfl) rfl (by simp -implicitDefEqProofs [hXX, xCells, nc, nc', u0, u1, at0, at1, m2, e1, evAV] <;> rfl) ?_
        refine AnyW.readX 4 rfl (by kernel_rfl) rfl (by simp -implicitDefEqProofs [hXX, xCells, nc, nc', u0, u1, at0, at1, m2, e1, evAV] <;> rfl) ?_
        refine AnyW.op2 7 11 rfl rfl (by kernel_rfl) [4, 3, 9, 0] [4, 3, 9, 6, 0] (by kernel_rfl) (by kernel_rfl) (Wat.cons rfl rfl rfl (by simp -implicitDefEqProofs [hXX, xCells, nc, nc', u0, u1, at0, at1, m2, e1, evAV] <;> rfl) (Wat.cons rfl rfl rfl (by simp -implicitDefEqProofs [hXX, xCells, nc, nc', u0, u1, at0, at1, m2, e1, evAV] <;> rfl) (Wat.cons rfl rfl rfl (by simp -implicitDefEqProofs [hXX, xCells, nc, nc', u0, u1, at0, at1, m2, e1, evAV] <;> rfl) (Wat.cons rfl rfl rfl (by simp -implicitDefEqProofs [hXX, xCells, nc, nc', u0, u1, at0, at1, m2, e1, evAV] <;> rfl) (Wat.cons rfl rfl rfl (by simp -implicitDefEqProofs [hXX, xCells, nc, nc', u0, u1, at0, at1, m2, e1, evAV] <;> rfl) (Wat.nil)))))) ?_ ?_
        · show OpsA _ _ _ [_] _ _
          refine OpsA.call (call_withinB (a := IntKind.i64.wrap (q.tdiv 2)) (n := 6) (by omega) (by omega)) rfl (by simp -implicitDefEqProofs [hXX, xCells, nc, nc', u0, u1, at0, at1, m2, e1, evAV] <;> rfl) (by kernel_rfl) (by simp -implicitDefEqProofs) rfl ?_
          rintro x σ' ⟨rfl, rfl⟩
          refine OpsA.nil ?_
          refine AnyW.take 10 rfl (by kernel_rfl) (by kernel_rfl) rfl (by simp -implicitDefEqProofs [hXX, xCells, nc, nc', u0, u1, at0, at1, m2, e1, evAV] <;> rfl) ?_
          refine AnyW.op 11 rfl (by kernel_rfl) [4, 3, 9, 0] (by kernel_rfl) (Wat.cons rfl rfl rfl (by simp -implicitDefEqProofs [hXX, xCells, nc, nc', u0, u1, at0, at1, m2, e1, evAV] <;> rfl) (Wat.cons rfl rfl rfl (by simp -implicitDefEqProofs [hXX, xCells, nc, nc', u0, u1, at0, at1, m2, e1, evAV] <;> rfl) (Wat.cons rfl rfl rfl (by simp -implicitDefEqProofs [hXX, xCells, nc, nc', u0, u1, at0, at1, m2, e1, evAV] <;> rfl) (Wat.cons rfl rfl rfl (by simp -implicitDefEqProofs [hXX, xCells, nc, nc', u0, u1, at0, at1, m2, e1, evAV] <;> rfl) (Wat.nil))))) ?_
          show OpsA _ _ _ [_] _ _
          refine OpsA.new (c) rfl (by simp -implicitDefEqProofs [hXX, xCells, nc, nc', u0, u1, at0, at1, m2, e1, evAV] <;> rfl) (by simp -implicitDefEqProofs) (by simp -implicitDefEqProofs <;> rfl) ?_
          refine OpsA.nil ?_
          refine AnyW.op 12 rfl (by kernel_rfl) [] (by kernel_rfl) (Wat.cons rfl rfl rfl (by simp -implicitDefEqProofs [hXX, xCells, nc, nc', u0, u1, at0, at1, m2, e1, evAV] <;> rfl) (Wat.cons rfl rfl rfl (by simp -implicitDefEqProofs [hXX, xCells, nc, nc', u0, u1, at0, at1, m2, e1, evAV] <;> rfl) (Wat.cons rfl rfl rfl (by simp -implicitDefEqProofs [hXX, xCells, nc, nc', u0, u1, at0, at1, m2, e1, evAV] <;> rfl) (Wat.cons rfl rfl rfl (by simp -implicitDefEqProofs [hXX, xCells, nc, nc', u0, u1, at0, at1, m2, e1, evAV] <;> rfl) (Wat.nil))))) ?_
          show OpsA _ _ _ [_] _ _
          refine OpsA.all (by simp -implicitDefEqProofs [hXX, xCells, nc, nc', u0, u1, at0, at1, m2, e1, evAV] <;> rfl) ?_
          refine AnyW.done (P := Try.prog) (by kernel_rfl) (Wat.nil) ?_
          refine Tri.seqR ttok rfl ?_
          refine OpsA.runX 2 (by simp -implicitDefEqProofs [hXX, xCells, nc, nc', u0, u1, at0, at1, m2, e1, evAV] <;> rfl) ?_
          simp only [List.drop]
          refine OpsA.call (bask (e := ⟨[112, 97, 121], within (IntKind.i64.wrap (q.tdiv 2)) 6, q.tmod 5⟩) h hbk) rfl (by simp -implicitDefEqProofs [hXX, xCells, nc, nc', u0, u1, at0, at1, m2, e1, evAV] <;> rfl) (by kernel_rfl) (by simp -implicitDefEqProofs) rfl ?_
          rintro x σ' ⟨rfl, rfl⟩
          refine OpsA.nil ?_
          refine Tri.region ttok rfl ?_
          refine OpsA.runX 2 (by simp -implicitDefEqProofs [hXX, xCells, nc, nc', u0, u1, at0, at1, m2, e1, evAV] <;> rfl) ?_
          simp only [List.drop]
          refine OpsA.call (xask (e := ⟨[112, 97, 121], within (IntKind.i64.wrap (q.tdiv 2)) 6, q.tmod 5⟩) h hbk) rfl (by simp -implicitDefEqProofs [hXX, xCells, nc, nc', u0, u1, at0, at1, m2, e1, evAV] <;> rfl) (by kernel_rfl) (by simp -implicitDefEqProofs) rfl ?_
          rintro x_ σ' ⟨rfl, g1, rfl⟩
          refine OpsA.nil ?_
          try simp only [thenQ, blockQ]
          refine Tri.seqX ttok rfl (by simp -implicitDefEqProofs [hXX, xCells, nc, nc', u0, u1, at0, at1, m2, e1, evAV] <;> rfl) ?_
          refine Tri.ret ?_
          refine fnPost.tmp (.inr rfl) rfl rfl (by simp -implicitDefEqProofs <;> rfl) (by exact True.intro) ?_ ⟨by simp -implicitDefEqProofs, askW w ⟨[112, 97, 121], within (IntKind.i64.wrap (q.tdiv 2)) 6, q.tmod 5⟩, askX x ⟨[112, 97, 121], within (IntKind.i64.wrap (q.tdiv 2)) 6, q.tmod 5⟩, g1, ?_, h.ask _ (by have := within_bounds (IntKind.i64.wrap (q.tdiv 2)) (n := 6) (by omega); simp only; omega)⟩
          · simp only [σ_put, σ_with, u0, u1]
            exact both_stays (by omega) fun n hn => by simp -implicitDefEqProofs [upd_ne, show n ≠ c by omega, show n ≠ c + 1 by omega]
          · simp only [σ_put, σ_with, u0, u1, both_cut (show c0 + 7 ≤ c by omega)]
            repeat rw [cutσ_new _ (by omega)]
            rw [hcσ]
        · show OpsA _ _ _ [_] _ _
          refine OpsA.new (c) rfl (by simp -implicitDefEqProofs [hXX, xCells, nc, nc', u0, u1, at0, at1, m2, e1, evAV] <;> rfl) (by simp -implicitDefEqProofs) (by simp -implicitDefEqProofs <;> rfl) ?_
          refine OpsA.nil ?_
          refine AnyW.op 7 rfl (by kernel_rfl) [4, 3, 9, 0] (by kernel_rfl) (Wat.cons rfl rfl rfl (by simp -implicitDefEqProofs [hXX, xCells, nc, nc', u0, u1, at0, at1, m2, e1, evAV] <;> rfl) (Wat.cons rfl rfl rfl (by simp -implicitDefEqProofs [hXX, xCells, nc, nc', u0, u1, at0, at1, m2, e1, evAV] <;> rfl) (Wat.cons rfl rfl rfl (by simp -implicitDefEqProofs [hXX, xCells, nc, nc', u0, u1, at0, at1, m2, e1, evAV] <;> rfl) (Wat.cons rfl rfl rfl (by simp -implicitDefEqProofs [hXX, xCells, nc, nc', u0, u1, at0, at1, m2, e1, evAV] <;> rfl) (Wat.cons rfl rfl rfl (by simp -implicitDefEqProofs [hXX, xCells, nc, nc', u0, u1, at0, at1, m2, e1, evAV] <;> rfl) (Wat.nil)))))) ?_
          show OpsA _ _ _ [_] _ _
          refine OpsA.call (call_withinB (a := IntKind.i64.wrap (q.tdiv 2)) (n := 6) (by omega) (by omega)) rfl (by simp -implicitDefEqProofs [hXX, xCells, nc, nc', u0, u1, at0, at1, m2, e1, evAV] <;> rfl) (by kernel_rfl) (by simp -implicitDefEqProofs) rfl ?_
          rintro x σ' ⟨rfl, rfl⟩
          refine OpsA.nil ?_
          refine AnyW.take 10 rfl (by kernel_rfl) (by kernel_rfl) rfl (by simp -implicitDefEqProofs [hXX, xCells, nc, nc', u0, u1, at0, at1, m2, e1, evAV] <;> rfl) ?_
          refine AnyW.op 12 rfl (by kernel_rfl) [] (by kernel_rfl) (Wat.cons rfl rfl rfl (by simp -implicitDefEqProofs [hXX, xCells, nc, nc', u0, u1, at0, at1, m2, e1, evAV] <;> rfl) (Wat.cons rfl rfl rfl (by simp -implicitDefEqProofs [hXX, xCells, nc, nc', u0, u1, at0, at1, m2, e1, evAV] <;> rfl) (Wat.cons rfl rfl rfl (by simp -implicitDefEqProofs [hXX, xCells, nc, nc', u0, u1, at0, at1, m2, e1, evAV] <;> rfl) (Wat.cons rfl rfl rfl (by simp -implicitDefEqProofs [hXX, xCells, nc, nc', u0, u1, at0, at1, m2, e1, evAV] <;> rfl) (Wat.nil))))) ?_
          show OpsA _ _ _ [_] _ _
          refine OpsA.all (by simp -implicitDefEqProofs [hXX, xCells, nc, nc', u0, u1, at0, at1, m2, e1, evAV] <;> rfl) ?_
          refine AnyW.done (P := Try.prog) (by kernel_rfl) (Wat.nil) ?_
          refine Tri.seqR ttok rfl ?_
          refine OpsA.runX 2 (by simp -implicitDefEqProofs [hXX, xCells, nc, nc', u0, u1, at0, at1, m2, e1, evAV] <;> rfl) ?_
          simp only [List.drop]
          refine OpsA.call (bask (e := ⟨[112, 97, 121], within (IntKind.i64.wrap (q.tdiv 2)) 6, q.tmod 5⟩) h hbk) rfl (by simp -implicitDefEqProofs [hXX, xCells, nc, nc', u0, u1, at0, at1, m2, e1, evAV] <;> rfl) (by kernel_rfl) (by simp -implicitDefEqProofs) rfl ?_
          rintro x σ' ⟨rfl, rfl⟩
          refine OpsA.nil ?_
          refine Tri.region ttok rfl ?_
          refine OpsA.runX 2 (by simp -implicitDefEqProofs [hXX, xCells, nc, nc', u0, u1, at0, at1, m2, e1, evAV] <;> rfl) ?_
          simp only [List.drop]
          refine OpsA.call (xask (e := ⟨[112, 97, 121], within (IntKind.i64.wrap (q.tdiv 2)) 6, q.tmod 5⟩) h hbk) rfl (by simp -implicitDefEqProofs [hXX, xCells, nc, nc', u0, u1, at0, at1, m2, e1, evAV] <;> rfl) (by kernel_rfl) (by simp -implicitDefEqProofs) rfl ?_
          rintro x_ σ' ⟨rfl, g1, rfl⟩
          refine OpsA.nil ?_
          try simp only [thenQ, blockQ]
          refine Tri.seqX ttok rfl (by simp -implicitDefEqProofs [hXX, xCells, nc, nc', u0, u1, at0, at1, m2, e1, evAV] <;> rfl) ?_
          refine Tri.ret ?_
          refine fnPost.tmp (.inr rfl) rfl rfl (by simp -implicitDefEqProofs <;> rfl) (by exact True.intro) ?_ ⟨by simp -implicitDefEqProofs, askW w ⟨[112, 97, 121], within (IntKind.i64.wrap (q.tdiv 2)) 6, q.tmod 5⟩, askX x ⟨[112, 97, 121], within (IntKind.i64.wrap (q.tdiv 2)) 6, q.tmod 5⟩, g1, ?_, h.ask _ (by have := within_bounds (IntKind.i64.wrap (q.tdiv 2)) (n := 6) (by omega); simp only; omega)⟩
          · simp only [σ_put, σ_with, u0, u1]
            exact both_stays (by omega) fun n hn => by simp -implicitDefEqProofs [upd_ne, show n ≠ c by omega, show n ≠ c + 1 by omega]
          · simp only [σ_put, σ_with, u0, u1, both_cut (show c0 + 7 ≤ c by omega)]
            repeat rw [cutσ_new _ (by omega)]
            rw [hcσ]
      · show OpsA _ _ _ [_] _ _
        refine OpsA.new (c) rfl (by simp -implicitDefEqProofs [hXX, xCells, nc, nc', u0, u1, at0, at1, m2, e1, evAV] <;> rfl) (by simp -implicitDefEqProofs) (by simp -implicitDefEqProofs <;> rfl) ?_
        refine OpsA.nil ?_
        refine AnyW.op 2 rfl (by kernel_rfl) [9, 6, 0] (by kernel_rfl) (Wat.cons rfl rfl rfl (by simp -implicitDefEqProofs [hXX, xCells, nc, nc', u0, u1, at0, at1, m2, e1, evAV] <;> rfl) (Wat.cons rfl rfl rfl (by simp -implicitDefEqProofs [hXX, xCells, nc, nc', u0, u1, at0, at1, m2, e1, evAV] <;> rfl) (Wat.cons rfl rfl rfl (by simp -implicitDefEqProofs [hXX, xCells, nc, nc', u0, u1, at0, at1, m2, e1, evAV] <;> rfl) (Wat.nil)))) ?_
        show OpsA _ _ _ [_] _ _
        refine OpsA.call (call_withinB (a := q) (n := 2) (by omega) (by omega)) rfl (by simp -implicitDefEqProofs [hXX, xCells, nc, nc', u0, u1, at0, at1, m2, e1, evAV] <;> rfl) (by kernel_rfl) (by simp -implicitDefEqProofs) rfl ?_
        rintro x σ' ⟨rfl, rfl⟩
        rw [hw2]
        refine OpsA.nil ?_
        refine AnyW.readX 3 rfl (by kernel_rfl) rfl (by simp -implicitDefEqProofs [hXX, xCells, nc, nc', u0, u1, at0, at1, m2, e1, evAV] <;> rfl) ?_
        refine AnyW.readX 4 rfl (by kernel_rfl) rfl (by simp -implicitDefEqProofs [hXX, xCells, nc, nc', u0, u1, at0, at1, m2, e1, evAV] <;> rfl) ?_
        refine AnyW.op 7 rfl (by kernel_rfl) [4, 3, 9, 0] (by kernel_rfl) (Wat.cons rfl rfl rfl (by simp -implicitDefEqProofs [hXX, xCells, nc, nc', u0, u1, at0, at1, m2, e1, evAV] <;> rfl) (Wat.cons rfl rfl rfl (by simp -implicitDefEqProofs [hXX, xCells, nc, nc', u0, u1, at0, at1, m2, e1, evAV] <;> rfl) (Wat.cons rfl rfl rfl (by simp -implicitDefEqProofs [hXX, xCells, nc, nc', u0, u1, at0, at1, m2, e1, evAV] <;> rfl) (Wat.cons rfl rfl rfl (by simp -implicitDefEqProofs [hXX, xCells, nc, nc', u0, u1, at0, at1, m2, e1, evAV] <;> rfl) (Wat.cons rfl rfl rfl (by simp -implicitDefEqProofs [hXX, xCells, nc, nc', u0, u1, at0, at1, m2, e1, evAV] <;> rfl) (Wat.nil)))))) ?_
        show OpsA _ _ _ [_] _ _
        refine OpsA.call (call_withinB (a := IntKind.i64.wrap (q.tdiv 2)) (n := 6) (by omega) (by omega)) rfl (by simp -implicitDefEqProofs [hXX, xCells, nc, nc', u0, u1, at0, at1, m2, e1, evAV] <;> rfl) (by kernel_rfl) (by simp -implicitDefEqProofs) rfl ?_
        rintro x σ' ⟨rfl, rfl⟩
        refine OpsA.nil ?_
        refine AnyW.take 10 rfl (by kernel_rfl) (by kernel_rfl) rfl (by simp -implicitDefEqProofs [hXX, xCells, nc, nc', u0, u1, at0, at1, m2, e1, evAV] <;> rfl) ?_
        refine AnyW.op 12 rfl (by kernel_rfl) [] (by kernel_rfl) (Wat.cons rfl rfl rfl (by simp -implicitDefEqProofs [hXX, xCells, nc, nc', u0, u1, at0, at1, m2, e1, evAV] <;> rfl) (Wat.cons rfl rfl rfl (by simp -implicitDefEqProofs [hXX, xCells, nc, nc', u0, u1, at0, at1, m2, e1, evAV] <;> rfl) (Wat.cons rfl rfl rfl (by simp -implicitDefEqProofs [hXX, xCells, nc, nc', u0, u1, at0, at1, m2, e1, evAV] <;> rfl) (Wat.cons rfl rfl rfl (by simp -implicitDefEqProofs [hXX, xCells, nc, nc', u0, u1, at0, at1, m2, e1, evAV] <;> rfl) (Wat.nil))))) ?_
        show OpsA _ _ _ [_] _ _
        refine OpsA.all (by simp -implicitDefEqProofs [hXX, xCells, nc, nc', u0, u1, at0, at1, m2, e1, evAV] <;> rfl) ?_
        refine AnyW.done (P := Try.prog) (by kernel_rfl) (Wat.nil) ?_
        refine Tri.seqR ttok rfl ?_
        refine OpsA.runX 2 (by simp -implicitDefEqProofs [hXX, xCells, nc, nc', u0, u1, at0, at1, m2, e1, evAV] <;> rfl) ?_
        simp only [List.drop]
        refine OpsA.call (bask (e := ⟨[112, 97, 121], within (IntKind.i64.wrap (q.tdiv 2)) 6, q.tmod 5⟩) h hbk) rfl (by simp -implicitDefEqProofs [hXX, xCells, nc, nc', u0, u1, at0, at1, m2, e1, evAV] <;> rfl) (by kernel_rfl) (by simp -implicitDefEqProofs) rfl ?_
        rintro x σ' ⟨rfl, rfl⟩
        refine OpsA.nil ?_
        refine Tri.region ttok rfl ?_
        refine OpsA.runX 2 (by simp -implicitDefEqProofs [hXX, xCells, nc, nc', u0, u1, at0, at1, m2, e1, evAV] <;> rfl) ?_
        simp only [List.drop]
        refine OpsA.call (xask (e := ⟨[112, 97, 121], within (IntKind.i64.wrap (q.tdiv 2)) 6, q.tmod 5⟩) h hbk) rfl (by simp -implicitDefEqProofs [hXX, xCells, nc, nc', u0, u1, at0, at1, m2, e1, evAV] <;> rfl) (by kernel_rfl) (by simp -implicitDefEqProofs) rfl ?_
        rintro x_ σ' ⟨rfl, g1, rfl⟩
        refine OpsA.nil ?_
        try simp only [thenQ, blockQ]
        refine Tri.seqX ttok rfl (by simp -implicitDefEqProofs [hXX, xCells, nc, nc', u0, u1, at0, at1, m2, e1, evAV] <;> rfl) ?_
        refine Tri.ret ?_
        refine fnPost.tmp (.inr rfl) rfl rfl (by simp -implicitDefEqProofs <;> rfl) (by exact True.intro) ?_ ⟨by simp -implicitDefEqProofs, askW w ⟨[112, 97, 121], within (IntKind.i64.wrap (q.tdiv 2)) 6, q.tmod 5⟩, askX x ⟨[112, 97, 121], within (IntKind.i64.wrap (q.tdiv 2)) 6, q.tmod 5⟩, g1, ?_, h.ask _ (by have := within_bounds (IntKind.i64.wrap (q.tdiv 2)) (n := 6) (by omega); simp only; omega)⟩
        · simp only [σ_put, σ_with, u0, u1]
          exact both_stays (by omega) fun n hn => by simp -implicitDefEqProofs [upd_ne, show n ≠ c by omega, show n ≠ c + 1 by omega]
        · simp only [σ_put, σ_with, u0, u1, both_cut (show c0 + 7 ≤ c by omega)]
          repeat rw [cutσ_new _ (by omega)]
          rw [hcσ]
    · refine Tri.seq (Tri.drawW ttok mix rfl ?_)
      refine AnyW.take 1 rfl (by kernel_rfl) (by kernel_rfl) rfl (by simp -implicitDefEqProofs [hXX, xCells, nc, nc', u0, u1, at0, at1, m2, e1, evAV] <;> rfl) ?_
      refine AnyW.take 5 rfl (by kernel_rfl) (by kernel_rfl) rfl (by simp -implicitDefEqProofs [hXX, xCells, nc, nc', u0, u1, at0, at1, m2, e1, evAV] <;> rfl) ?_
      refine AnyW.take 8 rfl (by kernel_rfl) (by kernel_rfl) rfl (by simp -implicitDefEqProofs [hXX, xCells, nc, nc', u0, u1, at0, at1, m2, e1, evAV] <;> rfl) ?_
      refine AnyW.readX 0 rfl (by kernel_rfl) rfl (by simp -implicitDefEqProofs [hXX, xCells, nc, nc', u0, u1, at0, at1, m2, e1, evAV] <;> rfl) ?_
      refine AnyW.readX 6 rfl (by kernel_rfl) rfl (by simp -implicitDefEqProofs [hXX, xCells, nc, nc', u0, u1, at0, at1, m2, e1, evAV] <;> rfl) ?_
      refine AnyW.readX 9 rfl (by kernel_rfl) rfl (by simp -implicitDefEqProofs [hXX, xCells, nc, nc', u0, u1, at0, at1, m2, e1, evAV] <;> rfl) ?_
      refine AnyW.op2 2 11 rfl rfl (by kernel_rfl) [9, 6, 0] [9, 6, 0] (by kernel_rfl) (by kernel_rfl) (Wat.cons rfl rfl rfl (by simp -implicitDefEqProofs [hXX, xCells, nc, nc', u0, u1, at0, at1, m2, e1, evAV] <;> rfl) (Wat.cons rfl rfl rfl (by simp -implicitDefEqProofs [hXX, xCells, nc, nc', u0, u1, at0, at1, m2, e1, evAV] <;> rfl) (Wat.cons rfl rfl rfl (by simp -implicitDefEqProofs [hXX, xCells, nc, nc', u0, u1, at0, at1, m2, e1, evAV] <;> rfl) (Wat.nil)))) ?_ ?_
      · show OpsA _ _ _ [_] _ _
        refine OpsA.call (call_withinB (a := q) (n := 2) (by omega) (by omega)) rfl (by simp -implicitDefEqProofs [hXX, xCells, nc, nc', u0, u1, at0, at1, m2, e1, evAV] <;> rfl) (by kernel_rfl) (by simp -implicitDefEqProofs) rfl ?_
        rintro x σ' ⟨rfl, rfl⟩
        rw [hw2]
        refine OpsA.nil ?_
        refine AnyW.readX 3 rfl (by kernel_rfl) rfl (by simp -implicitDefEqProofs [hXX, xCells, nc, nc', u0, u1, at0, at1, m2, e1, evAV] <;> rfl) ?_
        refine AnyW.readX 4 rfl (by kernel_rfl) rfl (by simp -implicitDefEqProofs [hXX, xCells, nc, nc', u0, u1, at0, at1, m2, e1, evAV] <;> rfl) ?_
        refine AnyW.op2 7 11 rfl rfl (by kernel_rfl) [4, 3, 9, 0] [4, 3, 9, 6, 0] (by kernel_rfl) (by kernel_rfl) (Wat.cons rfl rfl rfl (by simp -implicitDefEqProofs [hXX, xCells, nc, nc', u0, u1, at0, at1, m2, e1, evAV] <;> rfl) (Wat.cons rfl rfl rfl (by simp -implicitDefEqProofs [hXX, xCells, nc, nc', u0, u1, at0, at1, m2, e1, evAV] <;> rfl) (Wat.cons rfl rfl rfl (by simp -implicitDefEqProofs [hXX, xCells, nc, nc', u0, u1, at0, at1, m2, e1, evAV] <;> rfl) (Wat.cons rfl rfl rfl (by simp -implicitDefEqProofs [hXX, xCells, nc, nc', u0, u1, at0, at1, m2, e1, evAV] <;> rfl) (Wat.cons rfl rfl rfl (by simp -implicitDefEqProofs [hXX, xCells, nc, nc', u0, u1, at0, at1, m2, e1, evAV] <;> rfl) (Wat.nil)))))) ?_ ?_
        · show OpsA _ _ _ [_] _ _
          refine OpsA.call (call_withinB (a := IntKind.i64.wrap (q.tdiv 2)) (n := 6) (by omega) (by omega)) rfl (by simp -implicitDefEqProofs [hXX, xCells, nc, nc', u0, u1, at0, at1, m2, e1, evAV] <;> rfl) (by kernel_rfl) (by simp -implicitDefEqProofs) rfl ?_
          rintro x σ' ⟨rfl, rfl⟩
          refine OpsA.nil ?_
          refine AnyW.take 10 rfl (by kernel_rfl) (by kernel_rfl) rfl (by simp -implicitDefEqProofs [hXX, xCells, nc, nc', u0, u1, at0, at1, m2, e1, evAV] <;> rfl) ?_
          refine AnyW.op 11 rfl (by kernel_rfl) [4, 3, 9, 0] (by kernel_rfl) (Wat.cons rfl rfl rfl (by simp -implicitDefEqProofs [hXX, xCells, nc, nc', u0, u1, at0, at1, m2, e1, evAV] <;> rfl) (Wat.cons rfl rfl rfl (by simp -implicitDefEqProofs [hXX, xCells, nc, nc', u0, u1, at0, at1, m2, e1, evAV] <;> rfl) (Wat.cons rfl rfl rfl (by simp -implicitDefEqProofs [hXX, xCells, nc, nc', u0, u1, at0, at1, m2, e1, evAV] <;> rfl) (Wat.cons rfl rfl rfl (by simp -implicitDefEqProofs [hXX, xCells, nc, nc', u0, u1, at0, at1, m2, e1, evAV] <;> rfl) (Wat.nil))))) ?_
          show OpsA _ _ _ [_] _ _
          refine OpsA.new (c) rfl (by simp -implicitDefEqProofs [hXX, xCells, nc, nc', u0, u1, at0, at1, m2, e1, evAV] <;> rfl) (by simp -implicitDefEqProofs) (by simp -implicitDefEqProofs <;> rfl) ?_
          refine OpsA.nil ?_
          refine AnyW.op 12 rfl (by kernel_rfl) [] (by kernel_rfl) (Wat.cons rfl rfl rfl (by simp -implicitDefEqProofs [hXX, xCells, nc, nc', u0, u1, at0, at1, m2, e1, evAV] <;> rfl) (Wat.cons rfl rfl rfl (by simp -implicitDefEqProofs [hXX, xCells, nc, nc', u0, u1, at0, at1, m2, e1, evAV] <;> rfl) (Wat.cons rfl rfl rfl (by simp -implicitDefEqProofs [hXX, xCells, nc, nc', u0, u1, at0, at1, m2, e1, evAV] <;> rfl) (Wat.cons rfl rfl rfl (by simp -implicitDefEqProofs [hXX, xCells, nc, nc', u0, u1, at0, at1, m2, e1, evAV] <;> rfl) (Wat.nil))))) ?_
          show OpsA _ _ _ [_] _ _
          refine OpsA.all (by simp -implicitDefEqProofs [hXX, xCells, nc, nc', u0, u1, at0, at1, m2, e1, evAV] <;> rfl) ?_
          refine AnyW.done (P := Try.prog) (by kernel_rfl) (Wat.nil) ?_
          refine Tri.seqR ttok rfl ?_
          refine OpsA.runX 2 (by simp -implicitDefEqProofs [hXX, xCells, nc, nc', u0, u1, at0, at1, m2, e1, evAV] <;> rfl) ?_
          simp only [List.drop]
          refine OpsA.call (bask (e := ⟨[115, 104, 105, 112], within (IntKind.i64.wrap (q.tdiv 2)) 6, q.tmod 5⟩) h hbk) rfl (by simp -implicitDefEqProofs [hXX, xCells, nc, nc', u0, u1, at0, at1, m2, e1, evAV] <;> rfl) (by kernel_rfl) (by simp -implicitDefEqProofs) rfl ?_
          rintro x σ' ⟨rfl, rfl⟩
          refine OpsA.nil ?_
          refine Tri.region ttok rfl ?_
          refine OpsA.runX 2 (by simp -implicitDefEqProofs [hXX, xCells, nc, nc', u0, u1, at0, at1, m2, e1, evAV] <;> rfl) ?_
          simp only [List.drop]
          refine OpsA.call (xask (e := ⟨[115, 104, 105, 112], within (IntKind.i64.wrap (q.tdiv 2)) 6, q.tmod 5⟩) h hbk) rfl (by simp -implicitDefEqProofs [hXX, xCells, nc, nc', u0, u1, at0, at1, m2, e1, evAV] <;> rfl) (by kernel_rfl) (by simp -implicitDefEqProofs) rfl ?_
          rintro x_ σ' ⟨rfl, g1, rfl⟩
          refine OpsA.nil ?_
          try simp only [thenQ, blockQ]
          refine Tri.seqX ttok rfl (by simp -implicitDefEqProofs [hXX, xCells, nc, nc', u0, u1, at0, at1, m2, e1, evAV] <;> rfl) ?_
          refine Tri.ret ?_
          refine fnPost.tmp (.inr rfl) rfl rfl (by simp -implicitDefEqProofs <;> rfl) (by exact True.intro) ?_ ⟨by simp -implicitDefEqProofs, askW w ⟨[115, 104, 105, 112], within (IntKind.i64.wrap (q.tdiv 2)) 6, q.tmod 5⟩, askX x ⟨[115, 104, 105, 112], within (IntKind.i64.wrap (q.tdiv 2)) 6, q.tmod 5⟩, g1, ?_, h.ask _ (by have := within_bounds (IntKind.i64.wrap (q.tdiv 2)) (n := 6) (by omega); simp only; omega)⟩
          · simp only [σ_put, σ_with, u0, u1]
            exact both_stays (by omega) fun n hn => by simp -implicitDefEqProofs [upd_ne, show n ≠ c by omega, show n ≠ c + 1 by omega]
          · simp only [σ_put, σ_with, u0, u1, both_cut (show c0 + 7 ≤ c by omega)]
            repeat rw [cutσ_new _ (by omega)]
            rw [hcσ]
        · show OpsA _ _ _ [_] _ _
          refine OpsA.new (c) rfl (by simp -implicitDefEqProofs [hXX, xCells, nc, nc', u0, u1, at0, at1, m2, e1, evAV] <;> rfl) (by simp -implicitDefEqProofs) (by simp -implicitDefEqProofs <;> rfl) ?_
          refine OpsA.nil ?_
          refine AnyW.op 7 rfl (by kernel_rfl) [4, 3, 9, 0] (by kernel_rfl) (Wat.cons rfl rfl rfl (by simp -implicitDefEqProofs [hXX, xCells, nc, nc', u0, u1, at0, at1, m2, e1, evAV] <;> rfl) (Wat.cons rfl rfl rfl (by simp -implicitDefEqProofs [hXX, xCells, nc, nc', u0, u1, at0, at1, m2, e1, evAV] <;> rfl) (Wat.cons rfl rfl rfl (by simp -implicitDefEqProofs [hXX, xCells, nc, nc', u0, u1, at0, at1, m2, e1, evAV] <;> rfl) (Wat.cons rfl rfl rfl (by simp -implicitDefEqProofs [hXX, xCells, nc, nc', u0, u1, at0, at1, m2, e1, evAV] <;> rfl) (Wat.cons rfl rfl rfl (by simp -implicitDefEqProofs [hXX, xCells, nc, nc', u0, u1, at0, at1, m2, e1, evAV] <;> rfl) (Wat.nil)))))) ?_
          show OpsA _ _ _ [_] _ _
          refine OpsA.call (call_withinB (a := IntKind.i64.wrap (q.tdiv 2)) (n := 6) (by omega) (by omega)) rfl (by simp -implicitDefEqProofs [hXX, xCells, nc, nc', u0, u1, at0, at1, m2, e1, evAV] <;> rfl) (by kernel_rfl) (by simp -implicitDefEqProofs) rfl ?_
          rintro x σ' ⟨rfl, rfl⟩
          refine OpsA.nil ?_
          refine AnyW.take 10 rfl (by kernel_rfl) (by kernel_rfl) rfl (by simp -implicitDefEqProofs [hXX, xCells, nc, nc', u0, u1, at0, at1, m2, e1, evAV] <;> rfl) ?_
          refine AnyW.op 12 rfl (by kernel_rfl) [] (by kernel_rfl) (Wat.cons rfl rfl rfl (by simp -implicitDefEqProofs [hXX, xCells, nc, nc', u0, u1, at0, at1, m2, e1, evAV] <;> rfl) (Wat.cons rfl rfl rfl (by simp -implicitDefEqProofs [hXX, xCells, nc, nc', u0, u1, at0, at1, m2, e1, evAV] <;> rfl) (Wat.cons rfl rfl rfl (by simp -implicitDefEqProofs [hXX, xCells, nc, nc', u0, u1, at0, at1, m2, e1, evAV] <;> rfl) (Wat.cons rfl rfl rfl (by simp -implicitDefEqProofs [hXX, xCells, nc, nc', u0, u1, at0, at1, m2, e1, evAV] <;> rfl) (Wat.nil))))) ?_
          show OpsA _ _ _ [_] _ _
          refine OpsA.all (by simp -implicitDefEqProofs [hXX, xCells, nc, nc', u0, u1, at0, at1, m2, e1, evAV] <;> rfl) ?_
          refine AnyW.done (P := Try.prog) (by kernel_rfl) (Wat.nil) ?_
          refine Tri.seqR ttok rfl ?_
          refine OpsA.runX 2 (by simp -implicitDefEqProofs [hXX, xCells, nc, nc', u0, u1, at0, at1, m2, e1, evAV] <;> rfl) ?_
          simp only [List.drop]
          refine OpsA.call (bask (e := ⟨[115, 104, 105, 112], within (IntKind.i64.wrap (q.tdiv 2)) 6, q.tmod 5⟩) h hbk) rfl (by simp -implicitDefEqProofs [hXX, xCells, nc, nc', u0, u1, at0, at1, m2, e1, evAV] <;> rfl) (by kernel_rfl) (by simp -implicitDefEqProofs) rfl ?_
          rintro x σ' ⟨rfl, rfl⟩
          refine OpsA.nil ?_
          refine Tri.region ttok rfl ?_
          refine OpsA.runX 2 (by simp -implicitDefEqProofs [hXX, xCells, nc, nc', u0, u1, at0, at1, m2, e1, evAV] <;> rfl) ?_
          simp only [List.drop]
          refine OpsA.call (xask (e := ⟨[115, 104, 105, 112], within (IntKind.i64.wrap (q.tdiv 2)) 6, q.tmod 5⟩) h hbk) rfl (by simp -implicitDefEqProofs [hXX, xCells, nc, nc', u0, u1, at0, at1, m2, e1, evAV] <;> rfl) (by kernel_rfl) (by simp -implicitDefEqProofs) rfl ?_
          rintro x_ σ' ⟨rfl, g1, rfl⟩
          refine OpsA.nil ?_
          try simp only [thenQ, blockQ]
          refine Tri.seqX ttok rfl (by simp -implicitDefEqProofs [hXX, xCells, nc, nc', u0, u1, at0, at1, m2, e1, evAV] <;> rfl) ?_
          refine Tri.ret ?_
          refine fnPost.tmp (.inr rfl) rfl rfl (by simp -implicitDefEqProofs <;> rfl) (by exact True.intro) ?_ ⟨by simp -implicitDefEqProofs, askW w ⟨[115, 104, 105, 112], within (IntKind.i64.wrap (q.tdiv 2)) 6, q.tmod 5⟩, askX x ⟨[115, 104, 105, 112], within (IntKind.i64.wrap (q.tdiv 2)) 6, q.tmod 5⟩, g1, ?_, h.ask _ (by have := within_bounds (IntKind.i64.wrap (q.tdiv 2)) (n := 6) (by omega); simp only; omega)⟩
          · simp only [σ_put, σ_with, u0, u1]
            exact both_stays (by omega) fun n hn => by simp -implicitDefEqProofs [upd_ne, show n ≠ c by omega, show n ≠ c + 1 by omega]
          · simp only [σ_put, σ_with, u0, u1, both_cut (show c0 + 7 ≤ c by omega)]
            repeat rw [cutσ_new _ (by omega)]
            rw [hcσ]
      · show OpsA _ _ _ [_] _ _
        refine OpsA.new (c) rfl (by simp -implicitDefEqProofs [hXX, xCells, nc, nc', u0, u1, at0, at1, m2, e1, evAV] <;> rfl) (by simp -implicitDefEqProofs) (by simp -implicitDefEqProofs <;> rfl) ?_
        refine OpsA.nil ?_
        refine AnyW.op 2 rfl (by kernel_rfl) [9, 6, 0] (by kernel_rfl) (Wat.cons rfl rfl rfl (by simp -implicitDefEqProofs [hXX, xCells, nc, nc', u0, u1, at0, at1, m2, e1, evAV] <;> rfl) (Wat.cons rfl rfl rfl (by simp -implicitDefEqProofs [hXX, xCells, nc, nc', u0, u1, at0, at1, m2, e1, evAV] <;> rfl) (Wat.cons rfl rfl rfl (by simp -implicitDefEqProofs [hXX, xCells, nc, nc', u0, u1, at0, at1, m2, e1, evAV] <;> rfl) (Wat.nil)))) ?_
        show OpsA _ _ _ [_] _ _
        refine OpsA.call (call_withinB (a := q) (n := 2) (by omega) (by omega)) rfl (by simp -implicitDefEqProofs [hXX, xCells, nc, nc', u0, u1, at0, at1, m2, e1, evAV] <;> rfl) (by kernel_rfl) (by simp -implicitDefEqProofs) rfl ?_
        rintro x σ' ⟨rfl, rfl⟩
        rw [hw2]
        refine OpsA.nil ?_
        refine AnyW.readX 3 rfl (by kernel_rfl) rfl (by simp -implicitDefEqProofs [hXX, xCells, nc, nc', u0, u1, at0, at1, m2, e1, evAV] <;> rfl) ?_
        refine AnyW.readX 4 rfl (by kernel_rfl) rfl (by simp -implicitDefEqProofs [hXX, xCells, nc, nc', u0, u1, at0, at1, m2, e1, evAV] <;> rfl) ?_
        refine AnyW.op 7 rfl (by kernel_rfl) [4, 3, 9, 0] (by kernel_rfl) (Wat.cons rfl rfl rfl (by simp -implicitDefEqProofs [hXX, xCells, nc, nc', u0, u1, at0, at1, m2, e1, evAV] <;> rfl) (Wat.cons rfl rfl rfl (by simp -implicitDefEqProofs [hXX, xCells, nc, nc', u0, u1, at0, at1, m2, e1, evAV] <;> rfl) (Wat.cons rfl rfl rfl (by simp -implicitDefEqProofs [hXX, xCells, nc, nc', u0, u1, at0, at1, m2, e1, evAV] <;> rfl) (Wat.cons rfl rfl rfl (by simp -implicitDefEqProofs [hXX, xCells, nc, nc', u0, u1, at0, at1, m2, e1, evAV] <;> rfl) (Wat.cons rfl rfl rfl (by simp -implicitDefEqProofs [hXX, xCells, nc, nc', u0, u1, at0, at1, m2, e1, evAV] <;> rfl) (Wat.nil)))))) ?_
        show OpsA _ _ _ [_] _ _
        refine OpsA.call (call_withinB (a := IntKind.i64.wrap (q.tdiv 2)) (n := 6) (by omega) (by omega)) rfl (by simp -implicitDefEqProofs [hXX, xCells, nc, nc', u0, u1, at0, at1, m2, e1, evAV] <;> rfl) (by kernel_rfl) (by simp -implicitDefEqProofs) rfl ?_
        rintro x σ' ⟨rfl, rfl⟩
        refine OpsA.nil ?_
        refine AnyW.take 10 rfl (by kernel_rfl) (by kernel_rfl) rfl (by simp -implicitDefEqProofs [hXX, xCells, nc, nc', u0, u1, at0, at1, m2, e1, evAV] <;> rfl) ?_
        refine AnyW.op 12 rfl (by kernel_rfl) [] (by kernel_rfl) (Wat.cons rfl rfl rfl (by simp -implicitDefEqProofs [hXX, xCells, nc, nc', u0, u1, at0, at1, m2, e1, evAV] <;> rfl) (Wat.cons rfl rfl rfl (by simp -implicitDefEqProofs [hXX, xCells, nc, nc', u0, u1, at0, at1, m2, e1, evAV] <;> rfl) (Wat.cons rfl rfl rfl (by simp -implicitDefEqProofs [hXX, xCells, nc, nc', u0, u1, at0, at1, m2, e1, evAV] <;> rfl) (Wat.cons rfl rfl rfl (by simp -implicitDefEqProofs [hXX, xCells, nc, nc', u0, u1, at0, at1, m2, e1, evAV] <;> rfl) (Wat.nil))))) ?_
        show OpsA _ _ _ [_] _ _
        refine OpsA.all (by simp -implicitDefEqProofs [hXX, xCells, nc, nc', u0, u1, at0, at1, m2, e1, evAV] <;> rfl) ?_
        refine AnyW.done (P := Try.prog) (by kernel_rfl) (Wat.nil) ?_
        refine Tri.seqR ttok rfl ?_
        refine OpsA.runX 2 (by simp -implicitDefEqProofs [hXX, xCells, nc, nc', u0, u1, at0, at1, m2, e1, evAV] <;> rfl) ?_
        simp only [List.drop]
        refine OpsA.call (bask (e := ⟨[115, 104, 105, 112], within (IntKind.i64.wrap (q.tdiv 2)) 6, q.tmod 5⟩) h hbk) rfl (by simp -implicitDefEqProofs [hXX, xCells, nc, nc', u0, u1, at0, at1, m2, e1, evAV] <;> rfl) (by kernel_rfl) (by simp -implicitDefEqProofs) rfl ?_
        rintro x σ' ⟨rfl, rfl⟩
        refine OpsA.nil ?_
        refine Tri.region ttok rfl ?_
        refine OpsA.runX 2 (by simp -implicitDefEqProofs [hXX, xCells, nc, nc', u0, u1, at0, at1, m2, e1, evAV] <;> rfl) ?_
        simp only [List.drop]
        refine OpsA.call (xask (e := ⟨[115, 104, 105, 112], within (IntKind.i64.wrap (q.tdiv 2)) 6, q.tmod 5⟩) h hbk) rfl (by simp -implicitDefEqProofs [hXX, xCells, nc, nc', u0, u1, at0, at1, m2, e1, evAV] <;> rfl) (by kernel_rfl) (by simp -implicitDefEqProofs) rfl ?_
        rintro x_ σ' ⟨rfl, g1, rfl⟩
        refine OpsA.nil ?_
        try simp only [thenQ, blockQ]
        refine Tri.seqX ttok rfl (by simp -implicitDefEqProofs [hXX, xCells, nc, nc', u0, u1, at0, at1, m2, e1, evAV] <;> rfl) ?_
        refine Tri.ret ?_
        refine fnPost.tmp (.inr rfl) rfl rfl (by simp -implicitDefEqProofs <;> rfl) (by exact True.intro) ?_ ⟨by simp -implicitDefEqProofs, askW w ⟨[115, 104, 105, 112], within (IntKind.i64.wrap (q.tdiv 2)) 6, q.tmod 5⟩, askX x ⟨[115, 104, 105, 112], within (IntKind.i64.wrap (q.tdiv 2)) 6, q.tmod 5⟩, g1, ?_, h.ask _ (by have := within_bounds (IntKind.i64.wrap (q.tdiv 2)) (n := 6) (by omega); simp only; omega)⟩
        · simp only [σ_put, σ_with, u0, u1]
          exact both_stays (by omega) fun n hn => by simp -implicitDefEqProofs [upd_ne, show n ≠ c by omega, show n ≠ c + 1 by omega]
        · simp only [σ_put, σ_with, u0, u1, both_cut (show c0 + 7 ≤ c by omega)]
          repeat rw [cutσ_new _ (by omega)]
          rw [hcσ]
  · refine OpsA.nil ?_
    try simp only [hm']
    refine Tri.block ?_
    refine Tri.seq ?_
    refine Tri.seqX ttok rfl (by simp -implicitDefEqProofs [hXX, xCells, nc, nc', u0, u1, at0, at1, m2, e1] <;> rfl) ?_
    refine Tri.cond (b := false) (by simp -implicitDefEqProofs [hXX, xCells, nc, nc', u0, u1, at0, at1, m2, e1]) (fun h => by cases h) (fun _ => ?_)
    refine Tri.seqX ttok rfl (by simp -implicitDefEqProofs [hXX, xCells, nc, nc', u0, u1, at0, at1, m2, e1] <;> rfl) ?_
    refine Tri.cond (b := true) (by simp -implicitDefEqProofs [hXX, xCells, nc, nc', u0, u1, at0, at1, m2, e1]) (fun _ => ?_) (fun h => by cases h)
    refine Tri.skip ?_
    refine Tri.cond (b := true) (by simp -implicitDefEqProofs [hXX, xCells, nc, nc', u0, u1, at0, at1, m2, e1]) (fun _ => ?_) (fun h => by cases h)
    rcases (show within q 2 = 0 ∨ within q 2 = 1 by have := within_bounds q (n := 2) (by omega); omega) with hw2 | hw2
    · refine Tri.seq (Tri.drawW ttok mix rfl ?_)
      refine AnyW.take 1 rfl (by kernel_rfl) (by kernel_rfl) rfl (by simp -implicitDefEqProofs [hXX, xCells, nc, nc', u0, u1, at0, at1, m2, e1, evAV] <;> rfl) ?_
      refine AnyW.take 5 rfl (by kernel_rfl) (by kernel_rfl) rfl (by simp -implicitDefEqProofs [hXX, xCells, nc, nc', u0, u1, at0, at1, m2, e1, evAV] <;> rfl) ?_
      refine AnyW.take 8 rfl (by kernel_rfl) (by kernel_rfl) rfl (by simp -implicitDefEqProofs [hXX, xCells, nc, nc', u0, u1, at0, at1, m2, e1, evAV] <;> rfl) ?_
      refine AnyW.readX 0 rfl (by kernel_rfl) rfl (by simp -implicitDefEqProofs [hXX, xCells, nc, nc', u0, u1, at0, at1, m2, e1, evAV] <;> rfl) ?_
      refine AnyW.readX 6 rfl (by kernel_rfl) rfl (by simp -implicitDefEqProofs [hXX, xCells, nc, nc', u0, u1, at0, at1, m2, e1, evAV] <;> rfl) ?_
      refine AnyW.readX 9 rfl (by kernel_rfl) rfl (by simp -implicitDefEqProofs [hXX, xCells, nc, nc', u0, u1, at0, at1, m2, e1, evAV] <;> rfl) ?_
      refine AnyW.op2 2 11 rfl rfl (by kernel_rfl) [9, 6, 0] [9, 6, 0] (by kernel_rfl) (by kernel_rfl) (Wat.cons rfl rfl rfl (by simp -implicitDefEqProofs [hXX, xCells, nc, nc', u0, u1, at0, at1, m2, e1, evAV] <;> rfl) (Wat.cons rfl rfl rfl (by simp -implicitDefEqProofs [hXX, xCells, nc, nc', u0, u1, at0, at1, m2, e1, evAV] <;> rfl) (Wat.cons rfl rfl rfl (by simp -implicitDefEqProofs [hXX, xCells, nc, nc', u0, u1, at0, at1, m2, e1, evAV] <;> rfl) (Wat.nil)))) ?_ ?_
      · show OpsA _ _ _ [_] _ _
        refine OpsA.call (call_withinB (a := q) (n := 2) (by omega) (by omega)) rfl (by simp -implicitDefEqProofs [hXX, xCells, nc, nc', u0, u1, at0, at1, m2, e1, evAV] <;> rfl) (by kernel_rfl) (by simp -implicitDefEqProofs) rfl ?_
        rintro x σ' ⟨rfl, rfl⟩
        rw [hw2]
        refine OpsA.nil ?_
        refine AnyW.readX 3 rfl (by kernel_rfl) rfl (by simp -implicitDefEqProofs [hXX, xCells, nc, nc', u0, u1, at0, at1, m2, e1, evAV] <;> rfl) ?_
        refine AnyW.readX 4 rfl (by kernel_rfl) rfl (by simp -implicitDefEqProofs [hXX, xCells, nc, nc', u0, u1, at0, at1, m2, e1, evAV] <;> rfl) ?_
        refine AnyW.op2 7 11 rfl rfl (by kernel_rfl) [4, 3, 9, 0] [4, 3, 9, 6, 0] (by kernel_rfl) (by kernel_rfl) (Wat.cons rfl rfl rfl (by simp -implicitDefEqProofs [hXX, xCells, nc, nc', u0, u1, at0, at1, m2, e1, evAV] <;> rfl) (Wat.cons rfl rfl rfl (by simp -implicitDefEqProofs [hXX, xCells, nc, nc', u0, u1, at0, at1, m2, e1, evAV] <;> rfl) (Wat.cons rfl rfl rfl (by simp -implicitDefEqProofs [hXX, xCells, nc, nc', u0, u1, at0, at1, m2, e1, evAV] <;> rfl) (Wat.cons rfl rfl rfl (by simp -implicitDefEqProofs [hXX, xCells, nc, nc', u0, u1, at0, at1, m2, e1, evAV] <;> rfl) (Wat.cons rfl rfl rfl (by simp -implicitDefEqProofs [hXX, xCells, nc, nc', u0, u1, at0, at1, m2, e1, evAV] <;> rfl) (Wat.nil)))))) ?_ ?_
        · show OpsA _ _ _ [_] _ _
          refine OpsA.call (call_withinB (a := IntKind.i64.wrap (q.tdiv 2)) (n := 6) (by omega) (by omega)) rfl (by simp -implicitDefEqProofs [hXX, xCells, nc, nc', u0, u1, at0, at1, m2, e1, evAV] <;> rfl) (by kernel_rfl) (by simp -implicitDefEqProofs) rfl ?_
          rintro x σ' ⟨rfl, rfl⟩
          refine OpsA.nil ?_
          refine AnyW.take 10 rfl (by kernel_rfl) (by kernel_rfl) rfl (by simp -implicitDefEqProofs [hXX, xCells, nc, nc', u0, u1, at0, at1, m2, e1, evAV] <;> rfl) ?_
          refine AnyW.op 11 rfl (by kernel_rfl) [4, 3, 9, 0] (by kernel_rfl) (Wat.cons rfl rfl rfl (by simp -implicitDefEqProofs [hXX, xCells, nc, nc', u0, u1, at0, at1, m2, e1, evAV] <;> rfl) (Wat.cons rfl rfl rfl (by simp -implicitDefEqProofs [hXX, xCells, nc, nc', u0, u1, at0, at1, m2, e1, evAV] <;> rfl) (Wat.cons rfl rfl rfl (by simp -implicitDefEqProofs [hXX, xCells, nc, nc', u0, u1, at0, at1, m2, e1, evAV] <;> rfl) (Wat.cons rfl rfl rfl (by simp -implicitDefEqProofs [hXX, xCells, nc, nc', u0, u1, at0, at1, m2, e1, evAV] <;> rfl) (Wat.nil))))) ?_
          show OpsA _ _ _ [_] _ _
          refine OpsA.new (c) rfl (by simp -implicitDefEqProofs [hXX, xCells, nc, nc', u0, u1, at0, at1, m2, e1, evAV] <;> rfl) (by simp -implicitDefEqProofs) (by simp -implicitDefEqProofs <;> rfl) ?_
          refine OpsA.nil ?_
          refine AnyW.op 12 rfl (by kernel_rfl) [] (by kernel_rfl) (Wat.cons rfl rfl rfl (by simp -implicitDefEqProofs [hXX, xCells, nc, nc', u0, u1, at0, at1, m2, e1, evAV] <;> rfl) (Wat.cons rfl rfl rfl (by simp -implicitDefEqProofs [hXX, xCells, nc, nc', u0, u1, at0, at1, m2, e1, evAV] <;> rfl) (Wat.cons rfl rfl rfl (by simp -implicitDefEqProofs [hXX, xCells, nc, nc', u0, u1, at0, at1, m2, e1, evAV] <;> rfl) (Wat.cons rfl rfl rfl (by simp -implicitDefEqProofs [hXX, xCells, nc, nc', u0, u1, at0, at1, m2, e1, evAV] <;> rfl) (Wat.nil))))) ?_
          show OpsA _ _ _ [_] _ _
          refine OpsA.all (by simp -implicitDefEqProofs [hXX, xCells, nc, nc', u0, u1, at0, at1, m2, e1, evAV] <;> rfl) ?_
          refine AnyW.done (P := Try.prog) (by kernel_rfl) (Wat.nil) ?_
          refine Tri.seqR ttok rfl ?_
          refine OpsA.runX 2 (by simp -implicitDefEqProofs [hXX, xCells, nc, nc', u0, u1, at0, at1, m2, e1, evAV] <;> rfl) ?_
          simp only [List.drop]
          refine OpsA.call (bask (e := ⟨[112, 97, 121], within (IntKind.i64.wrap (q.tdiv 2)) 6, q.tmod 5⟩) h hbk) rfl (by simp -implicitDefEqProofs [hXX, xCells, nc, nc', u0, u1, at0, at1, m2, e1, evAV] <;> rfl) (by kernel_rfl) (by simp -implicitDefEqProofs) rfl ?_
          rintro x σ' ⟨rfl, rfl⟩
          refine OpsA.nil ?_
          refine Tri.region ttok rfl ?_
          refine OpsA.runX 2 (by simp -implicitDefEqProofs [hXX, xCells, nc, nc', u0, u1, at0, at1, m2, e1, evAV] <;> rfl) ?_
          simp only [List.drop]
          refine OpsA.call (xask (e := ⟨[112, 97, 121], within (IntKind.i64.wrap (q.tdiv 2)) 6, q.tmod 5⟩) h hbk) rfl (by simp -implicitDefEqProofs [hXX, xCells, nc, nc', u0, u1, at0, at1, m2, e1, evAV] <;> rfl) (by kernel_rfl) (by simp -implicitDefEqProofs) rfl ?_
          rintro x_ σ' ⟨rfl, g1, rfl⟩
          refine OpsA.nil ?_
          try simp only [thenQ, blockQ]
          refine Tri.seqX ttok rfl (by simp -implicitDefEqProofs [hXX, xCells, nc, nc', u0, u1, at0, at1, m2, e1, evAV] <;> rfl) ?_
          refine Tri.ret ?_
          refine fnPost.tmp (.inr rfl) rfl rfl (by simp -implicitDefEqProofs <;> rfl) (by exact True.intro) ?_ ⟨by simp -implicitDefEqProofs, askW w ⟨[112, 97, 121], within (IntKind.i64.wrap (q.tdiv 2)) 6, q.tmod 5⟩, askX x ⟨[112, 97, 121], within (IntKind.i64.wrap (q.tdiv 2)) 6, q.tmod 5⟩, g1, ?_, h.ask _ (by have := within_bounds (IntKind.i64.wrap (q.tdiv 2)) (n := 6) (by omega); simp only; omega)⟩
          · simp only [σ_put, σ_with, u0, u1]
            exact both_stays (by omega) fun n hn => by simp -implicitDefEqProofs [upd_ne, show n ≠ c by omega, show n ≠ c + 1 by omega]
          · simp only [σ_put, σ_with, u0, u1, both_cut (show c0 + 7 ≤ c by omega)]
            repeat rw [cutσ_new _ (by omega)]
            rw [hcσ]
        · show OpsA _ _ _ [_] _ _
          refine OpsA.new (c) rfl (by simp -implicitDefEqProofs [hXX, xCells, nc, nc', u0, u1, at0, at1, m2, e1, evAV] <;> rfl) (by simp -implicitDefEqProofs) (by simp -implicitDefEqProofs <;> rfl) ?_
          refine OpsA.nil ?_
          refine AnyW.op 7 rfl (by kernel_rfl) [4, 3, 9, 0] (by kernel_rfl) (Wat.cons rfl rfl rfl (by simp -implicitDefEqProofs [hXX, xCells, nc, nc', u0, u1, at0, at1, m2, e1, evAV] <;> rfl) (Wat.cons rfl rfl rfl (by simp -implicitDefEqProofs [hXX, xCells, nc, nc', u0, u1, at0, at1, m2, e1, evAV] <;> rfl) (Wat.cons rfl rfl rfl (by simp -implicitDefEqProofs [hXX, xCells, nc, nc', u0, u1, at0, at1, m2, e1, evAV] <;> rfl) (Wat.cons rfl rfl rfl (by simp -implicitDefEqProofs [hXX, xCells, nc, nc', u0, u1, at0, at1, m2, e1, evAV] <;> rfl) (Wat.cons rfl rfl rfl (by simp -implicitDefEqProofs [hXX, xCells, nc, nc', u0, u1, at0, at1, m2, e1, evAV] <;> rfl) (Wat.nil)))))) ?_
          show OpsA _ _ _ [_] _ _
          refine OpsA.call (call_withinB (a := IntKind.i64.wrap (q.tdiv 2)) (n := 6) (by omega) (by omega)) rfl (by simp -implicitDefEqProofs [hXX, xCells, nc, nc', u0, u1, at0, at1, m2, e1, evAV] <;> rfl) (by kernel_rfl) (by simp -implicitDefEqProofs) rfl ?_
          rintro x σ' ⟨rfl, rfl⟩
          refine OpsA.nil ?_
          refine AnyW.take 10 rfl (by kernel_rfl) (by kernel_rfl) rfl (by simp -implicitDefEqProofs [hXX, xCells, nc, nc', u0, u1, at0, at1, m2, e1, evAV] <;> rfl) ?_
          refine AnyW.op 12 rfl (by kernel_rfl) [] (by kernel_rfl) (Wat.cons rfl rfl rfl (by simp -implicitDefEqProofs [hXX, xCells, nc, nc', u0, u1, at0, at1, m2, e1, evAV] <;> rfl) (Wat.cons rfl rfl rfl (by simp -implicitDefEqProofs [hXX, xCells, nc, nc', u0, u1, at0, at1, m2, e1, evAV] <;> rfl) (Wat.cons rfl rfl rfl (by simp -implicitDefEqProofs [hXX, xCells, nc, nc', u0, u1, at0, at1, m2, e1, evAV] <;> rfl) (Wat.cons rfl rfl rfl (by simp -implicitDefEqProofs [hXX, xCells, nc, nc', u0, u1, at0, at1, m2, e1, evAV] <;> rfl) (Wat.nil))))) ?_
          show OpsA _ _ _ [_] _ _
          refine OpsA.all (by simp -implicitDefEqProofs [hXX, xCells, nc, nc', u0, u1, at0, at1, m2, e1, evAV] <;> rfl) ?_
          refine AnyW.done (P := Try.prog) (by kernel_rfl) (Wat.nil) ?_
          refine Tri.seqR ttok rfl ?_
          refine OpsA.runX 2 (by simp -implicitDefEqProofs [hXX, xCells, nc, nc', u0, u1, at0, at1, m2, e1, evAV] <;> rfl) ?_
          simp only [List.drop]
          refine OpsA.call (bask (e := ⟨[112, 97, 121], within (IntKind.i64.wrap (q.tdiv 2)) 6, q.tmod 5⟩) h hbk) rfl (by simp -implicitDefEqProofs [hXX, xCells, nc, nc', u0, u1, at0, at1, m2, e1, evAV] <;> rfl) (by kernel_rfl) (by simp -implicitDefEqProofs) rfl ?_
          rintro x σ' ⟨rfl, rfl⟩
          refine OpsA.nil ?_
          refine Tri.region ttok rfl ?_
          refine OpsA.runX 2 (by simp -implicitDefEqProofs [hXX, xCells, nc, nc', u0, u1, at0, at1, m2, e1, evAV] <;> rfl) ?_
          simp only [List.drop]
          refine OpsA.call (xask (e := ⟨[112, 97, 121], within (IntKind.i64.wrap (q.tdiv 2)) 6, q.tmod 5⟩) h hbk) rfl (by simp -implicitDefEqProofs [hXX, xCells, nc, nc', u0, u1, at0, at1, m2, e1, evAV] <;> rfl) (by kernel_rfl) (by simp -implicitDefEqProofs) rfl ?_
          rintro x_ σ' ⟨rfl, g1, rfl⟩
          refine OpsA.nil ?_
          try simp only [thenQ, blockQ]
          refine Tri.seqX ttok rfl (by simp -implicitDefEqProofs [hXX, xCells, nc, nc', u0, u1, at0, at1, m2, e1, evAV] <;> rfl) ?_
          refine Tri.ret ?_
          refine fnPost.tmp (.inr rfl) rfl rfl (by simp -implicitDefEqProofs <;> rfl) (by exact True.intro) ?_ ⟨by simp -implicitDefEqProofs, askW w ⟨[112, 97, 121], within (IntKind.i64.wrap (q.tdiv 2)) 6, q.tmod 5⟩, askX x ⟨[112, 97, 121], within (IntKind.i64.wrap (q.tdiv 2)) 6, q.tmod 5⟩, g1, ?_, h.ask _ (by have := within_bounds (IntKind.i64.wrap (q.tdiv 2)) (n := 6) (by omega); simp only; omega)⟩
          · simp only [σ_put, σ_with, u0, u1]
            exact both_stays (by omega) fun n hn => by simp -implicitDefEqProofs [upd_ne, show n ≠ c by omega, show n ≠ c + 1 by omega]
          · simp only [σ_put, σ_with, u0, u1, both_cut (show c0 + 7 ≤ c by omega)]
            repeat rw [cutσ_new _ (by omega)]
            rw [hcσ]
      · show OpsA _ _ _ [_] _ _
        refine OpsA.new (c) rfl (by simp -implicitDefEqProofs [hXX, xCells, nc, nc', u0, u1, at0, at1, m2, e1, evAV] <;> rfl) (by simp -implicitDefEqProofs) (by simp -implicitDefEqProofs <;> rfl) ?_
        refine OpsA.nil ?_
        refine AnyW.op 2 rfl (by kernel_rfl) [9, 6, 0] (by kernel_rfl) (Wat.cons rfl rfl rfl (by simp -implicitDefEqProofs [hXX, xCells, nc, nc', u0, u1, at0, at1, m2, e1, evAV] <;> rfl) (Wat.cons rfl rfl rfl (by simp -implicitDefEqProofs [hXX, xCells, nc, nc', u0, u1, at0, at1, m2, e1, evAV] <;> rfl) (Wat.cons rfl rfl rfl (by simp -implicitDefEqProofs [hXX, xCells, nc, nc', u0, u1, at0, at1, m2, e1, evAV] <;> rfl) (Wat.nil)))) ?_
        show OpsA _ _ _ [_] _ _
        refine OpsA.call (call_withinB (a := q) (n := 2) (by omega) (by omega)) rfl (by simp -implicitDefEqProofs [hXX, xCells, nc, nc', u0, u1, at0, at1, m2, e1, evAV] <;> rfl) (by kernel_rfl) (by simp -implicitDefEqProofs) rfl ?_
        rintro x σ' ⟨rfl, rfl⟩
        rw [hw2]
        refine OpsA.nil ?_
        refine AnyW.readX 3 rfl (by kernel_rfl) rfl (by simp -implicitDefEqProofs [hXX, xCells, nc, nc', u0, u1, at0, at1, m2, e1, evAV] <;> rfl) ?_
        refine AnyW.readX 4 rfl (by kernel_rfl) rfl (by simp -implicitDefEqProofs [hXX, xCells, nc, nc', u0, u1, at0, at1, m2, e1, evAV] <;> rfl) ?_
        refine AnyW.op 7 rfl (by kernel_rfl) [4, 3, 9, 0] (by kernel_rfl) (Wat.cons rfl rfl rfl (by simp -implicitDefEqProofs [hXX, xCells, nc, nc', u0, u1, at0, at1, m2, e1, evAV] <;> rfl) (Wat.cons rfl rfl rfl (by simp -implicitDefEqProofs [hXX, xCells, nc, nc', u0, u1, at0, at1, m2, e1, evAV] <;> rfl) (Wat.cons rfl rfl rfl (by simp -implicitDefEqProofs [hXX, xCells, nc, nc', u0, u1, at0, at1, m2, e1, evAV] <;> rfl) (Wat.cons rfl rfl rfl (by simp -implicitDefEqProofs [hXX, xCells, nc, nc', u0, u1, at0, at1, m2, e1, evAV] <;> rfl) (Wat.cons rfl rfl rfl (by simp -implicitDefEqProofs [hXX, xCells, nc, nc', u0, u1, at0, at1, m2, e1, evAV] <;> rfl) (Wat.nil)))))) ?_
        show OpsA _ _ _ [_] _ _
        refine OpsA.call (call_withinB (a := IntKind.i64.wrap (q.tdiv 2)) (n := 6) (by omega) (by omega)) rfl (by simp -implicitDefEqProofs [hXX, xCells, nc, nc', u0, u1, at0, at1, m2, e1, evAV] <;> rfl) (by kernel_rfl) (by simp -implicitDefEqProofs) rfl ?_
        rintro x σ' ⟨rfl, rfl⟩
        refine OpsA.nil ?_
        refine AnyW.take 10 rfl (by kernel_rfl) (by kernel_rfl) rfl (by simp -implicitDefEqProofs [hXX, xCells, nc, nc', u0, u1, at0, at1, m2, e1, evAV] <;> rfl) ?_
        refine AnyW.op 12 rfl (by kernel_rfl) [] (by kernel_rfl) (Wat.cons rfl rfl rfl (by simp -implicitDefEqProofs [hXX, xCells, nc, nc', u0, u1, at0, at1, m2, e1, evAV] <;> rfl) (Wat.cons rfl rfl rfl (by simp -implicitDefEqProofs [hXX, xCells, nc, nc', u0, u1, at0, at1, m2, e1, evAV] <;> rfl) (Wat.cons rfl rfl rfl (by simp -implicitDefEqProofs [hXX, xCells, nc, nc', u0, u1, at0, at1, m2, e1, evAV] <;> rfl) (Wat.cons rfl rfl rfl (by simp -implicitDefEqProofs [hXX, xCells, nc, nc', u0, u1, at0, at1, m2, e1, evAV] <;> rfl) (Wat.nil))))) ?_
        show OpsA _ _ _ [_] _ _
        refine OpsA.all (by simp -implicitDefEqProofs [hXX, xCells, nc, nc', u0, u1, at0, at1, m2, e1, evAV] <;> rfl) ?_
        refine AnyW.done (P := Try.prog) (by kernel_rfl) (Wat.nil) ?_
        refine Tri.seqR ttok rfl ?_
        refine OpsA.runX 2 (by simp -implicitDefEqProofs [hXX, xCells, nc, nc', u0, u1, at0, at1, m2, e1, evAV] <;> rfl) ?_
        simp only [List.drop]
        refine OpsA.call (bask (e := ⟨[112, 97, 121], within (IntKind.i64.wrap (q.tdiv 2)) 6, q.tmod 5⟩) h hbk) rfl (by simp -implicitDefEqProofs [hXX, xCells, nc, nc', u0, u1, at0, at1, m2, e1, evAV] <;> rfl) (by kernel_rfl) (by simp -implicitDefEqProofs) rfl ?_
        rintro x σ' ⟨rfl, rfl⟩
        refine OpsA.nil ?_
        refine Tri.region ttok rfl ?_
        refine OpsA.runX 2 (by simp -implicitDefEqProofs [hXX, xCells, nc, nc', u0, u1, at0, at1, m2, e1, evAV] <;> rfl) ?_
        simp only [List.drop]
        refine OpsA.call (xask (e := ⟨[112, 97, 121], within (IntKind.i64.wrap (q.tdiv 2)) 6, q.tmod 5⟩) h hbk) rfl (by simp -implicitDefEqProofs [hXX, xCells, nc, nc', u0, u1, at0, at1, m2, e1, evAV] <;> rfl) (by kernel_rfl) (by simp -implicitDefEqProofs) rfl ?_
        rintro x_ σ' ⟨rfl, g1, rfl⟩
        refine OpsA.nil ?_
        try simp only [thenQ, blockQ]
        refine Tri.seqX ttok rfl (by simp -implicitDefEqProofs [hXX, xCells, nc, nc', u0, u1, at0, at1, m2, e1, evAV] <;> rfl) ?_
        refine Tri.ret ?_
        refine fnPost.tmp (.inr rfl) rfl rfl (by simp -implicitDefEqProofs <;> rfl) (by exact True.intro) ?_ ⟨by simp -implicitDefEqProofs, askW w ⟨[112, 97, 121], within (IntKind.i64.wrap (q.tdiv 2)) 6, q.tmod 5⟩, askX x ⟨[112, 97, 121], within (IntKind.i64.wrap (q.tdiv 2)) 6, q.tmod 5⟩, g1, ?_, h.ask _ (by have := within_bounds (IntKind.i64.wrap (q.tdiv 2)) (n := 6) (by omega); simp only; omega)⟩
        · simp only [σ_put, σ_with, u0, u1]
          exact both_stays (by omega) fun n hn => by simp -implicitDefEqProofs [upd_ne, show n ≠ c by omega, show n ≠ c + 1 by omega]
        · simp only [σ_put, σ_with, u0, u1, both_cut (show c0 + 7 ≤ c by omega)]
          repeat rw [cutσ_new _ (by omega)]
          rw [hcσ]
    · refine Tri.seq (Tri.drawW ttok mix rfl ?_)
      refine AnyW.take 1 rfl (by kernel_rfl) (by kernel_rfl) rfl (by simp -implicitDefEqProofs [hXX, xCells, nc, nc', u0, u1, at0, at1, m2, e1, evAV] <;> rfl) ?_
      refine AnyW.take 5 rfl (by kernel_rfl) (by kernel_rfl) rfl (by simp -implicitDefEqProofs [hXX, xCells, nc, nc', u0, u1, at0, at1, m2, e1, evAV] <;> rfl) ?_
      refine AnyW.take 8 rfl (by kernel_rfl) (by kernel_rfl) rfl (by simp -implicitDefEqProofs [hXX, xCells, nc, nc', u0, u1, at0, at1, m2, e1, evAV] <;> rfl) ?_
      refine AnyW.readX 0 rfl (by kernel_rfl) rfl (by simp -implicitDefEqProofs [hXX, xCells, nc, nc', u0, u1, at0, at1, m2, e1, evAV] <;> rfl) ?_
      refine AnyW.readX 6 rfl (by kernel_rfl) rfl (by simp -implicitDefEqProofs [hXX, xCells, nc, nc', u0, u1, at0, at1, m2, e1, evAV] <;> rfl) ?_
      refine AnyW.readX 9 rfl (by kernel_rfl) rfl (by simp -implicitDefEqProofs [hXX, xCells, nc, nc', u0, u1, at0, at1, m2, e1, evAV] <;> rfl) ?_
      refine AnyW.op2 2 11 rfl rfl (by kernel_rfl) [9, 6, 0] [9, 6, 0] (by kernel_rfl) (by kernel_rfl) (Wat.cons rfl rfl rfl (by simp -implicitDefEqProofs [hXX, xCells, nc, nc', u0, u1, at0, at1, m2, e1, evAV] <;> rfl) (Wat.cons rfl rfl rfl (by simp -implicitDefEqProofs [hXX, xCells, nc, nc', u0, u1, at0, at1, m2, e1, evAV] <;> rfl) (Wat.cons rfl rfl rfl (by simp -implicitDefEqProofs [hXX, xCells, nc, nc', u0, u1, at0, at1, m2, e1, evAV] <;> rfl) (Wat.nil)))) ?_ ?_
      · show OpsA _ _ _ [_] _ _
        refine OpsA.call (call_withinB (a := q) (n := 2) (by omega) (by omega)) rfl (by simp -implicitDefEqProofs [hXX, xCells, nc, nc', u0, u1, at0, at1, m2, e1, evAV] <;> rfl) (by kernel_rfl) (by simp -implicitDefEqProofs) rfl ?_
        rintro x σ' ⟨rfl, rfl⟩
        rw [hw2]
        refine OpsA.nil ?_
        refine AnyW.readX 3 rfl (by kernel_rfl) rfl (by simp -implicitDefEqProofs [hXX, xCells, nc, nc', u0, u1, at0, at1, m2, e1, evAV] <;> rfl) ?_
        refine AnyW.readX 4 rfl (by kernel_rfl) rfl (by simp -implicitDefEqProofs [hXX, xCells, nc, nc', u0, u1, at0, at1, m2, e1, evAV] <;> rfl) ?_
        refine AnyW.op2 7 11 rfl rfl (by kernel_rfl) [4, 3, 9, 0] [4, 3, 9, 6, 0] (by kernel_rfl) (by kernel_rfl) (Wat.cons rfl rfl rfl (by simp -implicitDefEqProofs [hXX, xCells, nc, nc', u0, u1, at0, at1, m2, e1, evAV] <;> rfl) (Wat.cons rfl rfl rfl (by simp -implicitDefEqProofs [hXX, xCells, nc, nc', u0, u1, at0, at1, m2, e1, evAV] <;> rfl) (Wat.cons rfl rfl rfl (by simp -implicitDefEqProofs [hXX, xCells, nc, nc', u0, u1, at0, at1, m2, e1, evAV] <;> rfl) (Wat.cons rfl rfl rfl (by simp -implicitDefEqProofs [hXX, xCells, nc, nc', u0, u1, at0, at1, m2, e1, evAV] <;> rfl) (Wat.cons rfl rfl rfl (by simp -implicitDefEqProofs [hXX, xCells, nc, nc', u0, u1, at0, at1, m2, e1, evAV] <;> rfl) (Wat.nil)))))) ?_ ?_
        · show OpsA _ _ _ [_] _ _
          refine OpsA.call (call_withinB (a := IntKind.i64.wrap (q.tdiv 2)) (n := 6) (by omega) (by omega)) rfl (by simp -implicitDefEqProofs [hXX, xCells, nc, nc', u0, u1, at0, at1, m2, e1, evAV] <;> rfl) (by kernel_rfl) (by simp -implicitDefEqProofs) rfl ?_
          rintro x σ' ⟨rfl, rfl⟩
          refine OpsA.nil ?_
          refine AnyW.take 10 rfl (by kernel_rfl) (by kernel_rfl) rfl (by simp -implicitDefEqProofs [hXX, xCells, nc, nc', u0, u1, at0, at1, m2, e1, evAV] <;> rfl) ?_
          refine AnyW.op 11 rfl (by kernel_rfl) [4, 3, 9, 0] (by kernel_rfl) (Wat.cons rfl rfl rfl (by simp -implicitDefEqProofs [hXX, xCells, nc, nc', u0, u1, at0, at1, m2, e1, evAV] <;> rfl) (Wat.cons rfl rfl rfl (by simp -implicitDefEqProofs [hXX, xCells, nc, nc', u0, u1, at0, at1, m2, e1, evAV] <;> rfl) (Wat.cons rfl rfl rfl (by simp -implicitDefEqProofs [hXX, xCells, nc, nc', u0, u1, at0, at1, m2, e1, evAV] <;> rfl) (Wat.cons rfl rfl rfl (by simp -implicitDefEqProofs [hXX, xCells, nc, nc', u0, u1, at0, at1, m2, e1, evAV] <;> rfl) (Wat.nil))))) ?_
          show OpsA _ _ _ [_] _ _
          refine OpsA.new (c) rfl (by simp -implicitDefEqProofs [hXX, xCells, nc, nc', u0, u1, at0, at1, m2, e1, evAV] <;> rfl) (by simp -implicitDefEqProofs) (by simp -implicitDefEqProofs <;> rfl) ?_
          refine OpsA.nil ?_
          refine AnyW.op 12 rfl (by kernel_rfl) [] (by kernel_rfl) (Wat.cons rfl rfl rfl (by simp -implicitDefEqProofs [hXX, xCells, nc, nc', u0, u1, at0, at1, m2, e1, evAV] <;> rfl) (Wat.cons rfl rfl rfl (by simp -implicitDefEqProofs [hXX, xCells, nc, nc', u0, u1, at0, at1, m2, e1, evAV] <;> rfl) (Wat.cons rfl rfl rfl (by simp -implicitDefEqProofs [hXX, xCells, nc, nc', u0, u1, at0, at1, m2, e1, evAV] <;> rfl) (Wat.cons rfl rfl rfl (by simp -implicitDefEqProofs [hXX, xCells, nc, nc', u0, u1, at0, at1, m2, e1, evAV] <;> rfl) (Wat.nil))))) ?_
          show OpsA _ _ _ [_] _ _
          refine OpsA.all (by simp -implicitDefEqProofs [hXX, xCells, nc, nc', u0, u1, at0, at1, m2, e1, evAV] <;> rfl) ?_
          refine AnyW.done (P := Try.prog) (by kernel_rfl) (Wat.nil) ?_
          refine Tri.seqR ttok rfl ?_
          refine OpsA.runX 2 (by simp -implicitDefEqProofs [hXX, xCells, nc, nc', u0, u1, at0, at1, m2, e1, evAV] <;> rfl) ?_
          simp only [List.drop]
          refine OpsA.call (bask (e := ⟨[115, 104, 105, 112], within (IntKind.i64.wrap (q.tdiv 2)) 6, q.tmod 5⟩) h hbk) rfl (by simp -implicitDefEqProofs [hXX, xCells, nc, nc', u0, u1, at0, at1, m2, e1, evAV] <;> rfl) (by kernel_rfl) (by simp -implicitDefEqProofs) rfl ?_
          rintro x σ' ⟨rfl, rfl⟩
          refine OpsA.nil ?_
          refine Tri.region ttok rfl ?_
          refine OpsA.runX 2 (by simp -implicitDefEqProofs [hXX, xCells, nc, nc', u0, u1, at0, at1, m2, e1, evAV] <;> rfl) ?_
          simp only [List.drop]
          refine OpsA.call (xask (e := ⟨[115, 104, 105, 112], within (IntKind.i64.wrap (q.tdiv 2)) 6, q.tmod 5⟩) h hbk) rfl (by simp -implicitDefEqProofs [hXX, xCells, nc, nc', u0, u1, at0, at1, m2, e1, evAV] <;> rfl) (by kernel_rfl) (by simp -implicitDefEqProofs) rfl ?_
          rintro x_ σ' ⟨rfl, g1, rfl⟩
          refine OpsA.nil ?_
          try simp only [thenQ, blockQ]
          refine Tri.seqX ttok rfl (by simp -implicitDefEqProofs [hXX, xCells, nc, nc', u0, u1, at0, at1, m2, e1, evAV] <;> rfl) ?_
          refine Tri.ret ?_
          refine fnPost.tmp (.inr rfl) rfl rfl (by simp -implicitDefEqProofs <;> rfl) (by exact True.intro) ?_ ⟨by simp -implicitDefEqProofs, askW w ⟨[115, 104, 105, 112], within (IntKind.i64.wrap (q.tdiv 2)) 6, q.tmod 5⟩, askX x ⟨[115, 104, 105, 112], within (IntKind.i64.wrap (q.tdiv 2)) 6, q.tmod 5⟩, g1, ?_, h.ask _ (by have := within_bounds (IntKind.i64.wrap (q.tdiv 2)) (n := 6) (by omega); simp only; omega)⟩
          · simp only [σ_put, σ_with, u0, u1]
            exact both_stays (by omega) fun n hn => by simp -implicitDefEqProofs [upd_ne, show n ≠ c by omega, show n ≠ c + 1 by omega]
          · simp only [σ_put, σ_with, u0, u1, both_cut (show c0 + 7 ≤ c by omega)]
            repeat rw [cutσ_new _ (by omega)]
            rw [hcσ]
        · show OpsA _ _ _ [_] _ _
          refine OpsA.new (c) rfl (by simp -implicitDefEqProofs [hXX, xCells, nc, nc', u0, u1, at0, at1, m2, e1, evAV] <;> rfl) (by simp -implicitDefEqProofs) (by simp -implicitDefEqProofs <;> rfl) ?_
          refine OpsA.nil ?_
          refine AnyW.op 7 rfl (by kernel_rfl) [4, 3, 9, 0] (by kernel_rfl) (Wat.cons rfl rfl rfl (by simp -implicitDefEqProofs [hXX, xCells, nc, nc', u0, u1, at0, at1, m2, e1, evAV] <;> rfl) (Wat.cons rfl rfl rfl (by simp -implicitDefEqProofs [hXX, xCells, nc, nc', u0, u1, at0, at1, m2, e1, evAV] <;> rfl) (Wat.cons rfl rfl rfl (by simp -implicitDefEqProofs [hXX, xCells, nc, nc', u0, u1, at0, at1, m2, e1, evAV] <;> rfl) (Wat.cons rfl rfl rfl (by simp -implicitDefEqProofs [hXX, xCells, nc, nc', u0, u1, at0, at1, m2, e1, evAV] <;> rfl) (Wat.cons rfl rfl rfl (by simp -implicitDefEqProofs [hXX, xCells, nc, nc', u0, u1, at0, at1, m2, e1, evAV] <;> rfl) (Wat.nil)))))) ?_
          show OpsA _ _ _ [_] _ _
          refine OpsA.call (call_withinB (a := IntKind.i64.wrap (q.tdiv 2)) (n := 6) (by omega) (by omega)) rfl (by simp -implicitDefEqProofs [hXX, xCells, nc, nc', u0, u1, at0, at1, m2, e1, evAV] <;> rfl) (by kernel_rfl) (by simp -implicitDefEqProofs) rfl ?_
          rintro x σ' ⟨rfl, rfl⟩
          refine OpsA.nil ?_
          refine AnyW.take 10 rfl (by kernel_rfl) (by kernel_rfl) rfl (by simp -implicitDefEqProofs [hXX, xCells, nc, nc', u0, u1, at0, at1, m2, e1, evAV] <;> rfl) ?_
          refine AnyW.op 12 rfl (by kernel_rfl) [] (by kernel_rfl) (Wat.cons rfl rfl rfl (by simp -implicitDefEqProofs [hXX, xCells, nc, nc', u0, u1, at0, at1, m2, e1, evAV] <;> rfl) (Wat.cons rfl rfl rfl (by simp -implicitDefEqProofs [hXX, xCells, nc, nc', u0, u1, at0, at1, m2, e1, evAV] <;> rfl) (Wat.cons rfl rfl rfl (by simp -implicitDefEqProofs [hXX, xCells, nc, nc', u0, u1, at0, at1, m2, e1, evAV] <;> rfl) (Wat.cons rfl rfl rfl (by simp -implicitDefEqProofs [hXX, xCells, nc, nc', u0, u1, at0, at1, m2, e1, evAV] <;> rfl) (Wat.nil))))) ?_
          show OpsA _ _ _ [_] _ _
          refine OpsA.all (by simp -implicitDefEqProofs [hXX, xCells, nc, nc', u0, u1, at0, at1, m2, e1, evAV] <;> rfl) ?_
          refine AnyW.done (P := Try.prog) (by kernel_rfl) (Wat.nil) ?_
          refine Tri.seqR ttok rfl ?_
          refine OpsA.runX 2 (by simp -implicitDefEqProofs [hXX, xCells, nc, nc', u0, u1, at0, at1, m2, e1, evAV] <;> rfl) ?_
          simp only [List.drop]
          refine OpsA.call (bask (e := ⟨[115, 104, 105, 112], within (IntKind.i64.wrap (q.tdiv 2)) 6, q.tmod 5⟩) h hbk) rfl (by simp -implicitDefEqProofs [hXX, xCells, nc, nc', u0, u1, at0, at1, m2, e1, evAV] <;> rfl) (by kernel_rfl) (by simp -implicitDefEqProofs) rfl ?_
          rintro x σ' ⟨rfl, rfl⟩
          refine OpsA.nil ?_
          refine Tri.region ttok rfl ?_
          refine OpsA.runX 2 (by simp -implicitDefEqProofs [hXX, xCells, nc, nc', u0, u1, at0, at1, m2, e1, evAV] <;> rfl) ?_
          simp only [List.drop]
          refine OpsA.call (xask (e := ⟨[115, 104, 105, 112], within (IntKind.i64.wrap (q.tdiv 2)) 6, q.tmod 5⟩) h hbk) rfl (by simp -implicitDefEqProofs [hXX, xCells, nc, nc', u0, u1, at0, at1, m2, e1, evAV] <;> rfl) (by kernel_rfl) (by simp -implicitDefEqProofs) rfl ?_
          rintro x_ σ' ⟨rfl, g1, rfl⟩
          refine OpsA.nil ?_
          try simp only [thenQ, blockQ]
          refine Tri.seqX ttok rfl (by simp -implicitDefEqProofs [hXX, xCells, nc, nc', u0, u1, at0, at1, m2, e1, evAV] <;> rfl) ?_
          refine Tri.ret ?_
          refine fnPost.tmp (.inr rfl) rfl rfl (by simp -implicitDefEqProofs <;> rfl) (by exact True.intro) ?_ ⟨by simp -implicitDefEqProofs, askW w ⟨[115, 104, 105, 112], within (IntKind.i64.wrap (q.tdiv 2)) 6, q.tmod 5⟩, askX x ⟨[115, 104, 105, 112], within (IntKind.i64.wrap (q.tdiv 2)) 6, q.tmod 5⟩, g1, ?_, h.ask _ (by have := within_bounds (IntKind.i64.wrap (q.tdiv 2)) (n := 6) (by omega); simp only; omega)⟩
          · simp only [σ_put, σ_with, u0, u1]
            exact both_stays (by omega) fun n hn => by simp -implicitDefEqProofs [upd_ne, show n ≠ c by omega, show n ≠ c + 1 by omega]
          · simp only [σ_put, σ_with, u0, u1, both_cut (show c0 + 7 ≤ c by omega)]
            repeat rw [cutσ_new _ (by omega)]
            rw [hcσ]
      · show OpsA _ _ _ [_] _ _
        refine OpsA.new (c) rfl (by simp -implicitDefEqProofs [hXX, xCells, nc, nc', u0, u1, at0, at1, m2, e1, evAV] <;> rfl) (by simp -implicitDefEqProofs) (by simp -implicitDefEqProofs <;> rfl) ?_
        refine OpsA.nil ?_
        refine AnyW.op 2 rfl (by kernel_rfl) [9, 6, 0] (by kernel_rfl) (Wat.cons rfl rfl rfl (by simp -implicitDefEqProofs [hXX, xCells, nc, nc', u0, u1, at0, at1, m2, e1, evAV] <;> rfl) (Wat.cons rfl rfl rfl (by simp -implicitDefEqProofs [hXX, xCells, nc, nc', u0, u1, at0, at1, m2, e1, evAV] <;> rfl) (Wat.cons rfl rfl rfl (by simp -implicitDefEqProofs [hXX, xCells, nc, nc', u0, u1, at0, at1, m2, e1, evAV] <;> rfl) (Wat.nil)))) ?_
        show OpsA _ _ _ [_] _ _
        refine OpsA.call (call_withinB (a := q) (n := 2) (by omega) (by omega)) rfl (by simp -implicitDefEqProofs [hXX, xCells, nc, nc', u0, u1, at0, at1, m2, e1, evAV] <;> rfl) (by kernel_rfl) (by simp -implicitDefEqProofs) rfl ?_
        rintro x σ' ⟨rfl, rfl⟩
        rw [hw2]
        refine OpsA.nil ?_
        refine AnyW.readX 3 rfl (by kernel_rfl) rfl (by simp -implicitDefEqProofs [hXX, xCells, nc, nc', u0, u1, at0, at1, m2, e1, evAV] <;> rfl) ?_
        refine AnyW.readX 4 rfl (by kernel_rfl) rfl (by simp -implicitDefEqProofs [hXX, xCells, nc, nc', u0, u1, at0, at1, m2, e1, evAV] <;> rfl) ?_
        refine AnyW.op 7 rfl (by kernel_rfl) [4, 3, 9, 0] (by kernel_rfl) (Wat.cons rfl rfl rfl (by simp -implicitDefEqProofs [hXX, xCells, nc, nc', u0, u1, at0, at1, m2, e1, evAV] <;> rfl) (Wat.cons rfl rfl rfl (by simp -implicitDefEqProofs [hXX, xCells, nc, nc', u0, u1, at0, at1, m2, e1, evAV] <;> rfl) (Wat.cons rfl rfl rfl (by simp -implicitDefEqProofs [hXX, xCells, nc, nc', u0, u1, at0, at1, m2, e1, evAV] <;> rfl) (Wat.cons rfl rfl rfl (by simp -implicitDefEqProofs [hXX, xCells, nc, nc', u0, u1, at0, at1, m2, e1, evAV] <;> rfl) (Wat.cons rfl rfl rfl (by simp -implicitDefEqProofs [hXX, xCells, nc, nc', u0, u1, at0, at1, m2, e1, evAV] <;> rfl) (Wat.nil)))))) ?_
        show OpsA _ _ _ [_] _ _
        refine OpsA.call (call_withinB (a := IntKind.i64.wrap (q.tdiv 2)) (n := 6) (by omega) (by omega)) rfl (by simp -implicitDefEqProofs [hXX, xCells, nc, nc', u0, u1, at0, at1, m2, e1, evAV] <;> rfl) (by kernel_rfl) (by simp -implicitDefEqProofs) rfl ?_
        rintro x σ' ⟨rfl, rfl⟩
        refine OpsA.nil ?_
        refine AnyW.take 10 rfl (by kernel_rfl) (by kernel_rfl) rfl (by simp -implicitDefEqProofs [hXX, xCells, nc, nc', u0, u1, at0, at1, m2, e1, evAV] <;> rfl) ?_
        refine AnyW.op 12 rfl (by kernel_rfl) [] (by kernel_rfl) (Wat.cons rfl rfl rfl (by simp -implicitDefEqProofs [hXX, xCells, nc, nc', u0, u1, at0, at1, m2, e1, evAV] <;> rfl) (Wat.cons rfl rfl rfl (by simp -implicitDefEqProofs [hXX, xCells, nc, nc', u0, u1, at0, at1, m2, e1, evAV] <;> rfl) (Wat.cons rfl rfl rfl (by simp -implicitDefEqProofs [hXX, xCells, nc, nc', u0, u1, at0, at1, m2, e1, evAV] <;> rfl) (Wat.cons rfl rfl rfl (by simp -implicitDefEqProofs [hXX, xCells, nc, nc', u0, u1, at0, at1, m2, e1, evAV] <;> rfl) (Wat.nil))))) ?_
        show OpsA _ _ _ [_] _ _
        refine OpsA.all (by simp -implicitDefEqProofs [hXX, xCells, nc, nc', u0, u1, at0, at1, m2, e1, evAV] <;> rfl) ?_
        refine AnyW.done (P := Try.prog) (by kernel_rfl) (Wat.nil) ?_
        refine Tri.seqR ttok rfl ?_
        refine OpsA.runX 2 (by simp -implicitDefEqProofs [hXX, xCells, nc, nc', u0, u1, at0, at1, m2, e1, evAV] <;> rfl) ?_
        simp only [List.drop]
        refine OpsA.call (bask (e := ⟨[115, 104, 105, 112], within (IntKind.i64.wrap (q.tdiv 2)) 6, q.tmod 5⟩) h hbk) rfl (by simp -implicitDefEqProofs [hXX, xCells, nc, nc', u0, u1, at0, at1, m2, e1, evAV] <;> rfl) (by kernel_rfl) (by simp -implicitDefEqProofs) rfl ?_
        rintro x σ' ⟨rfl, rfl⟩
        refine OpsA.nil ?_
        refine Tri.region ttok rfl ?_
        refine OpsA.runX 2 (by simp -implicitDefEqProofs [hXX, xCells, nc, nc', u0, u1, at0, at1, m2, e1, evAV] <;> rfl) ?_
        simp only [List.drop]
        refine OpsA.call (xask (e := ⟨[115, 104, 105, 112], within (IntKind.i64.wrap (q.tdiv 2)) 6, q.tmod 5⟩) h hbk) rfl (by simp -implicitDefEqProofs [hXX, xCells, nc, nc', u0, u1, at0, at1, m2, e1, evAV] <;> rfl) (by kernel_rfl) (by simp -implicitDefEqProofs) rfl ?_
        rintro x_ σ' ⟨rfl, g1, rfl⟩
        refine OpsA.nil ?_
        try simp only [thenQ, blockQ]
        refine Tri.seqX ttok rfl (by simp -implicitDefEqProofs [hXX, xCells, nc, nc', u0, u1, at0, at1, m2, e1, evAV] <;> rfl) ?_
        refine Tri.ret ?_
        refine fnPost.tmp (.inr rfl) rfl rfl (by simp -implicitDefEqProofs <;> rfl) (by exact True.intro) ?_ ⟨by simp -implicitDefEqProofs, askW w ⟨[115, 104, 105, 112], within (IntKind.i64.wrap (q.tdiv 2)) 6, q.tmod 5⟩, askX x ⟨[115, 104, 105, 112], within (IntKind.i64.wrap (q.tdiv 2)) 6, q.tmod 5⟩, g1, ?_, h.ask _ (by have := within_bounds (IntKind.i64.wrap (q.tdiv 2)) (n := 6) (by omega); simp only; omega)⟩
        · simp only [σ_put, σ_with, u0, u1]
          exact both_stays (by omega) fun n hn => by simp -implicitDefEqProofs [upd_ne, show n ≠ c by omega, show n ≠ c + 1 by omega]
        · simp only [σ_put, σ_with, u0, u1, both_cut (show c0 + 7 ≤ c by omega)]
          repeat rw [cutσ_new _ (by omega)]
          rw [hcσ]
  · refine OpsA.nil ?_
    try simp only [hm']
    refine Tri.block ?_
    refine Tri.seq ?_
    refine Tri.seqX ttok rfl (by simp -implicitDefEqProofs [hXX, xCells, nc, nc', u0, u1, at0, at1, m2, e1] <;> rfl) ?_
    refine Tri.cond (b := false) (by simp -implicitDefEqProofs [hXX, xCells, nc, nc', u0, u1, at0, at1, m2, e1]) (fun h => by cases h) (fun _ => ?_)
    refine Tri.seqX ttok rfl (by simp -implicitDefEqProofs [hXX, xCells, nc, nc', u0, u1, at0, at1, m2, e1] <;> rfl) ?_
    refine Tri.cond (b := false) (by simp -implicitDefEqProofs [hXX, xCells, nc, nc', u0, u1, at0, at1, m2, e1]) (fun h => by cases h) (fun _ => ?_)
    refine Tri.x ttok rfl (by simp -implicitDefEqProofs [hXX, xCells, nc, nc', u0, u1, at0, at1, m2, e1] <;> rfl) ?_
    refine Tri.cond (b := true) (by simp -implicitDefEqProofs [hXX, xCells, nc, nc', u0, u1, at0, at1, m2, e1]) (fun _ => ?_) (fun h => by cases h)
    rcases (show within q 2 = 0 ∨ within q 2 = 1 by have := within_bounds q (n := 2) (by omega); omega) with hw2 | hw2
    · refine Tri.seq (Tri.drawW ttok mix rfl ?_)
      refine AnyW.take 1 rfl (by kernel_rfl) (by kernel_rfl) rfl (by simp -implicitDefEqProofs [hXX, xCells, nc, nc', u0, u1, at0, at1, m2, e1, evAV] <;> rfl) ?_
      refine AnyW.take 5 rfl (by kernel_rfl) (by kernel_rfl) rfl (by simp -implicitDefEqProofs [hXX, xCells, nc, nc', u0, u1, at0, at1, m2, e1, evAV] <;> rfl) ?_
      refine AnyW.take 8 rfl (by kernel_rfl) (by kernel_rfl) rfl (by simp -implicitDefEqProofs [hXX, xCells, nc, nc', u0, u1, at0, at1, m2, e1, evAV] <;> rfl) ?_
      refine AnyW.readX 0 rfl (by kernel_rfl) rfl (by simp -implicitDefEqProofs [hXX, xCells, nc, nc', u0, u1, at0, at1, m2, e1, evAV] <;> rfl) ?_
      refine AnyW.readX 6 rfl (by kernel_rfl) rfl (by simp -implicitDefEqProofs [hXX, xCells, nc, nc', u0, u1, at0, at1, m2, e1, evAV] <;> rfl) ?_
      refine AnyW.readX 9 rfl (by kernel_rfl) rfl (by simp -implicitDefEqProofs [hXX, xCells, nc, nc', u0, u1, at0, at1, m2, e1, evAV] <;> rfl) ?_
      refine AnyW.op2 2 11 rfl rfl (by kernel_rfl) [9, 6, 0] [9, 6, 0] (by kernel_rfl) (by kernel_rfl) (Wat.cons rfl rfl rfl (by simp -implicitDefEqProofs [hXX, xCells, nc, nc', u0, u1, at0, at1, m2, e1, evAV] <;> rfl) (Wat.cons rfl rfl rfl (by simp -implicitDefEqProofs [hXX, xCells, nc, nc', u0, u1, at0, at1, m2, e1, evAV] <;> rfl) (Wat.cons rfl rfl rfl (by simp -implicitDefEqProofs [hXX, xCells, nc, nc', u0, u1, at0, at1, m2, e1, evAV] <;> rfl) (Wat.nil)))) ?_ ?_
      · show OpsA _ _ _ [_] _ _
        refine OpsA.call (call_withinB (a := q) (n := 2) (by omega) (by omega)) rfl (by simp -implicitDefEqProofs [hXX, xCells, nc, nc', u0, u1, at0, at1, m2, e1, evAV] <;> rfl) (by kernel_rfl) (by simp -implicitDefEqProofs) rfl ?_
        rintro x σ' ⟨rfl, rfl⟩
        rw [hw2]
        refine OpsA.nil ?_
        refine AnyW.readX 3 rfl (by kernel_rfl) rfl (by simp -implicitDefEqProofs [hXX, xCells, nc, nc', u0, u1, at0, at1, m2, e1, evAV] <;> rfl) ?_
        refine AnyW.readX 4 rfl (by kernel_rfl) rfl (by simp -implicitDefEqProofs [hXX, xCells, nc, nc', u0, u1, at0, at1, m2, e1, evAV] <;> rfl) ?_
        refine AnyW.op2 7 11 rfl rfl (by kernel_rfl) [4, 3, 9, 0] [4, 3, 9, 6, 0] (by kernel_rfl) (by kernel_rfl) (Wat.cons rfl rfl rfl (by simp -implicitDefEqProofs [hXX, xCells, nc, nc', u0, u1, at0, at1, m2, e1, evAV] <;> rfl) (Wat.cons rfl rfl rfl (by simp -implicitDefEqProofs [hXX, xCells, nc, nc', u0, u1, at0, at1, m2, e1, evAV] <;> rfl) (Wat.cons rfl rfl rfl (by simp -implicitDefEqProofs [hXX, xCells, nc, nc', u0, u1, at0, at1, m2, e1, evAV] <;> rfl) (Wat.cons rfl rfl rfl (by simp -implicitDefEqProofs [hXX, xCells, nc, nc', u0, u1, at0, at1, m2, e1, evAV] <;> rfl) (Wat.cons rfl rfl rfl (by simp -implicitDefEqProofs [hXX, xCells, nc, nc', u0, u1, at0, at1, m2, e1, evAV] <;> rfl) (Wat.nil)))))) ?_ ?_
        · show OpsA _ _ _ [_] _ _
          refine OpsA.call (call_withinB (a := IntKind.i64.wrap (q.tdiv 2)) (n := 6) (by omega) (by omega)) rfl (by simp -implicitDefEqProofs [hXX, xCells, nc, nc', u0, u1, at0, at1, m2, e1, evAV] <;> rfl) (by kernel_rfl) (by simp -implicitDefEqProofs) rfl ?_
          rintro x σ' ⟨rfl, rfl⟩
          refine OpsA.nil ?_
          refine AnyW.take 10 rfl (by kernel_rfl) (by kernel_rfl) rfl (by simp -implicitDefEqProofs [hXX, xCells, nc, nc', u0, u1, at0, at1, m2, e1, evAV] <;> rfl) ?_
          refine AnyW.op 11 rfl (by kernel_rfl) [4, 3, 9, 0] (by kernel_rfl) (Wat.cons rfl rfl rfl (by simp -implicitDefEqProofs [hXX, xCells, nc, nc', u0, u1, at0, at1, m2, e1, evAV] <;> rfl) (Wat.cons rfl rfl rfl (by simp -implicitDefEqProofs [hXX, xCells, nc, nc', u0, u1, at0, at1, m2, e1, evAV] <;> rfl) (Wat.cons rfl rfl rfl (by simp -implicitDefEqProofs [hXX, xCells, nc, nc', u0, u1, at0, at1, m2, e1, evAV] <;> rfl) (Wat.cons rfl rfl rfl (by simp -implicitDefEqProofs [hXX, xCells, nc, nc', u0, u1, at0, at1, m2, e1, evAV] <;> rfl) (Wat.nil))))) ?_
          show OpsA _ _ _ [_] _ _
          refine OpsA.new (c) rfl (by simp -implicitDefEqProofs [hXX, xCells, nc, nc', u0, u1, at0, at1, m2, e1, evAV] <;> rfl) (by simp -implicitDefEqProofs) (by simp -implicitDefEqProofs <;> rfl) ?_
          refine OpsA.nil ?_
          refine AnyW.op 12 rfl (by kernel_rfl) [] (by kernel_rfl) (Wat.cons rfl rfl rfl (by simp -implicitDefEqProofs [hXX, xCells, nc, nc', u0, u1, at0, at1, m2, e1, evAV] <;> rfl) (Wat.cons rfl rfl rfl (by simp -implicitDefEqProofs [hXX, xCells, nc, nc', u0, u1, at0, at1, m2, e1, evAV] <;> rfl) (Wat.cons rfl rfl rfl (by simp -implicitDefEqProofs [hXX, xCells, nc, nc', u0, u1, at0, at1, m2, e1, evAV] <;> rfl) (Wat.cons rfl rfl rfl (by simp -implicitDefEqProofs [hXX, xCells, nc, nc', u0, u1, at0, at1, m2, e1, evAV] <;> rfl) (Wat.nil))))) ?_
          show OpsA _ _ _ [_] _ _
          refine OpsA.all (by simp -implicitDefEqProofs [hXX, xCells, nc, nc', u0, u1, at0, at1, m2, e1, evAV] <;> rfl) ?_
          refine AnyW.done (P := Try.prog) (by kernel_rfl) (Wat.nil) ?_
          refine Tri.seqR ttok rfl ?_
          refine OpsA.runX 2 (by simp -implicitDefEqProofs [hXX, xCells, nc, nc', u0, u1, at0, at1, m2, e1, evAV] <;> rfl) ?_
          simp only [List.drop]
          refine OpsA.call (bask (e := ⟨[112, 97, 121], within (IntKind.i64.wrap (q.tdiv 2)) 6, q.tmod 5⟩) h hbk) rfl (by simp -implicitDefEqProofs [hXX, xCells, nc, nc', u0, u1, at0, at1, m2, e1, evAV] <;> rfl) (by kernel_rfl) (by simp -implicitDefEqProofs) rfl ?_
          rintro x σ' ⟨rfl, rfl⟩
          refine OpsA.nil ?_
          refine Tri.region ttok rfl ?_
          refine OpsA.runX 2 (by simp -implicitDefEqProofs [hXX, xCells, nc, nc', u0, u1, at0, at1, m2, e1, evAV] <;> rfl) ?_
          simp only [List.drop]
          refine OpsA.call (xask (e := ⟨[112, 97, 121], within (IntKind.i64.wrap (q.tdiv 2)) 6, q.tmod 5⟩) h hbk) rfl (by simp -implicitDefEqProofs [hXX, xCells, nc, nc', u0, u1, at0, at1, m2, e1, evAV] <;> rfl) (by kernel_rfl) (by simp -implicitDefEqProofs) rfl ?_
          rintro x_ σ' ⟨rfl, g1, rfl⟩
          refine OpsA.nil ?_
          try simp only [thenQ, blockQ]
          refine Tri.seqX ttok rfl (by simp -implicitDefEqProofs [hXX, xCells, nc, nc', u0, u1, at0, at1, m2, e1, evAV] <;> rfl) ?_
          refine Tri.ret ?_
          refine fnPost.tmp (.inr rfl) rfl rfl (by simp -implicitDefEqProofs <;> rfl) (by exact True.intro) ?_ ⟨by simp -implicitDefEqProofs, askW w ⟨[112, 97, 121], within (IntKind.i64.wrap (q.tdiv 2)) 6, q.tmod 5⟩, askX x ⟨[112, 97, 121], within (IntKind.i64.wrap (q.tdiv 2)) 6, q.tmod 5⟩, g1, ?_, h.ask _ (by have := within_bounds (IntKind.i64.wrap (q.tdiv 2)) (n := 6) (by omega); simp only; omega)⟩
          · simp only [σ_put, σ_with, u0, u1]
            exact both_stays (by omega) fun n hn => by simp -implicitDefEqProofs [upd_ne, show n ≠ c by omega, show n ≠ c + 1 by omega]
          · simp only [σ_put, σ_with, u0, u1, both_cut (show c0 + 7 ≤ c by omega)]
            repeat rw [cutσ_new _ (by omega)]
            rw [hcσ]
        · show OpsA _ _ _ [_] _ _
          refine OpsA.new (c) rfl (by simp -implicitDefEqProofs [hXX, xCells, nc, nc', u0, u1, at0, at1, m2, e1, evAV] <;> rfl) (by simp -implicitDefEqProofs) (by simp -implicitDefEqProofs <;> rfl) ?_
          refine OpsA.nil ?_
          refine AnyW.op 7 rfl (by kernel_rfl) [4, 3, 9, 0] (by kernel_rfl) (Wat.cons rfl rfl rfl (by simp -implicitDefEqProofs [hXX, xCells, nc, nc', u0, u1, at0, at1, m2, e1, evAV] <;> rfl) (Wat.cons rfl rfl rfl (by simp -implicitDefEqProofs [hXX, xCells, nc, nc', u0, u1, at0, at1, m2, e1, evAV] <;> rfl) (Wat.cons rfl rfl rfl (by simp -implicitDefEqProofs [hXX, xCells, nc, nc', u0, u1, at0, at1, m2, e1, evAV] <;> rfl) (Wat.cons rfl rfl rfl (by simp -implicitDefEqProofs [hXX, xCells, nc, nc', u0, u1, at0, at1, m2, e1, evAV] <;> rfl) (Wat.cons rfl rfl rfl (by simp -implicitDefEqProofs [hXX, xCells, nc, nc', u0, u1, at0, at1, m2, e1, evAV] <;> rfl) (Wat.nil)))))) ?_
          show OpsA _ _ _ [_] _ _
          refine OpsA.call (call_withinB (a := IntKind.i64.wrap (q.tdiv 2)) (n := 6) (by omega) (by omega)) rfl (by simp -implicitDefEqProofs [hXX, xCells, nc, nc', u0, u1, at0, at1, m2, e1, evAV] <;> rfl) (by kernel_rfl) (by simp -implicitDefEqProofs) rfl ?_
          rintro x σ' ⟨rfl, rfl⟩
          refine OpsA.nil ?_
          refine AnyW.take 10 rfl (by kernel_rfl) (by kernel_rfl) rfl (by simp -implicitDefEqProofs [hXX, xCells, nc, nc', u0, u1, at0, at1, m2, e1, evAV] <;> rfl) ?_
          refine AnyW.op 12 rfl (by kernel_rfl) [] (by kernel_rfl) (Wat.cons rfl rfl rfl (by simp -implicitDefEqProofs [hXX, xCells, nc, nc', u0, u1, at0, at1, m2, e1, evAV] <;> rfl) (Wat.cons rfl rfl rfl (by simp -implicitDefEqProofs [hXX, xCells, nc, nc', u0, u1, at0, at1, m2, e1, evAV] <;> rfl) (Wat.cons rfl rfl rfl (by simp -implicitDefEqProofs [hXX, xCells, nc, nc', u0, u1, at0, at1, m2, e1, evAV] <;> rfl) (Wat.cons rfl rfl rfl (by simp -implicitDefEqProofs [hXX, xCells, nc, nc', u0, u1, at0, at1, m2, e1, evAV] <;> rfl) (Wat.nil))))) ?_
          show OpsA _ _ _ [_] _ _
          refine OpsA.all (by simp -implicitDefEqProofs [hXX, xCells, nc, nc', u0, u1, at0, at1, m2, e1, evAV] <;> rfl) ?_
          refine AnyW.done (P := Try.prog) (by kernel_rfl) (Wat.nil) ?_
          refine Tri.seqR ttok rfl ?_
          refine OpsA.runX 2 (by simp -implicitDefEqProofs [hXX, xCells, nc, nc', u0, u1, at0, at1, m2, e1, evAV] <;> rfl) ?_
          simp only [List.drop]
          refine OpsA.call (bask (e := ⟨[112, 97, 121], within (IntKind.i64.wrap (q.tdiv 2)) 6, q.tmod 5⟩) h hbk) rfl (by simp -implicitDefEqProofs [hXX, xCells, nc, nc', u0, u1, at0, at1, m2, e1, evAV] <;> rfl) (by kernel_rfl) (by simp -implicitDefEqProofs) rfl ?_
          rintro x σ' ⟨rfl, rfl⟩
          refine OpsA.nil ?_
          refine Tri.region ttok rfl ?_
          refine OpsA.runX 2 (by simp -implicitDefEqProofs [hXX, xCells, nc, nc', u0, u1, at0, at1, m2, e1, evAV] <;> rfl) ?_
          simp only [List.drop]
          refine OpsA.call (xask (e := ⟨[112, 97, 121], within (IntKind.i64.wrap (q.tdiv 2)) 6, q.tmod 5⟩) h hbk) rfl (by simp -implicitDefEqProofs [hXX, xCells, nc, nc', u0, u1, at0, at1, m2, e1, evAV] <;> rfl) (by kernel_rfl) (by simp -implicitDefEqProofs) rfl ?_
          rintro x_ σ' ⟨rfl, g1, rfl⟩
          refine OpsA.nil ?_
          try simp only [thenQ, blockQ]
          refine Tri.seqX ttok rfl (by simp -implicitDefEqProofs [hXX, xCells, nc, nc', u0, u1, at0, at1, m2, e1, evAV] <;> rfl) ?_
          refine Tri.ret ?_
          refine fnPost.tmp (.inr rfl) rfl rfl (by simp -implicitDefEqProofs <;> rfl) (by exact True.intro) ?_ ⟨by simp -implicitDefEqProofs, askW w ⟨[112, 97, 121], within (IntKind.i64.wrap (q.tdiv 2)) 6, q.tmod 5⟩, askX x ⟨[112, 97, 121], within (IntKind.i64.wrap (q.tdiv 2)) 6, q.tmod 5⟩, g1, ?_, h.ask _ (by have := within_bounds (IntKind.i64.wrap (q.tdiv 2)) (n := 6) (by omega); simp only; omega)⟩
          · simp only [σ_put, σ_with, u0, u1]
            exact both_stays (by omega) fun n hn => by simp -implicitDefEqProofs [upd_ne, show n ≠ c by omega, show n ≠ c + 1 by omega]
          · simp only [σ_put, σ_with, u0, u1, both_cut (show c0 + 7 ≤ c by omega)]
            repeat rw [cutσ_new _ (by omega)]
            rw [hcσ]
      · show OpsA _ _ _ [_] _ _
        refine OpsA.new (c) rfl (by simp -implicitDefEqProofs [hXX, xCells, nc, nc', u0, u1, at0, at1, m2, e1, evAV] <;> rfl) (by simp -implicitDefEqProofs) (by simp -implicitDefEqProofs <;> rfl) ?_
        refine OpsA.nil ?_
        refine AnyW.op 2 rfl (by kernel_rfl) [9, 6, 0] (by kernel_rfl) (Wat.cons rfl rfl rfl (by simp -implicitDefEqProofs [hXX, xCells, nc, nc', u0, u1, at0, at1, m2, e1, evAV] <;> rfl) (Wat.cons rfl rfl rfl (by simp -implicitDefEqProofs [hXX, xCells, nc, nc', u0, u1, at0, at1, m2, e1, evAV] <;> rfl) (Wat.cons rfl rfl rfl (by simp -implicitDefEqProofs [hXX, xCells, nc, nc', u0, u1, at0, at1, m2, e1, evAV] <;> rfl) (Wat.nil)))) ?_
        show OpsA _ _ _ [_] _ _
        refine OpsA.call (call_withinB (a := q) (n := 2) (by omega) (by omega)) rfl (by simp -implicitDefEqProofs [hXX, xCells, nc, nc', u0, u1, at0, at1, m2, e1, evAV] <;> rfl) (by kernel_rfl) (by simp -implicitDefEqProofs) rfl ?_
        rintro x σ' ⟨rfl, rfl⟩
        rw [hw2]
        refine OpsA.nil ?_
        refine AnyW.readX 3 rfl (by kernel_rfl) rfl (by simp -implicitDefEqProofs [hXX, xCells, nc, nc', u0, u1, at0, at1, m2, e1, evAV] <;> rfl) ?_
        refine AnyW.readX 4 rfl (by kernel_rfl) rfl (by simp -implicitDefEqProofs [hXX, xCells, nc, nc', u0, u1, at0, at1, m2, e1, evAV] <;> rfl) ?_
        refine AnyW.op 7 rfl (by kernel_rfl) [4, 3, 9, 0] (by kernel_rfl) (Wat.cons rfl rfl rfl (by simp -implicitDefEqProofs [hXX, xCells, nc, nc', u0, u1, at0, at1, m2, e1, evAV] <;> rfl) (Wat.cons rfl rfl rfl (by simp -implicitDefEqProofs [hXX, xCells, nc, nc', u0, u1, at0, at1, m2, e1, evAV] <;> rfl) (Wat.cons rfl rfl rfl (by simp -implicitDefEqProofs [hXX, xCells, nc, nc', u0, u1, at0, at1, m2, e1, evAV] <;> rfl) (Wat.cons rfl rfl rfl (by simp -implicitDefEqProofs [hXX, xCells, nc, nc', u0, u1, at0, at1, m2, e1, evAV] <;> rfl) (Wat.cons rfl rfl rfl (by simp -implicitDefEqProofs [hXX, xCells, nc, nc', u0, u1, at0, at1, m2, e1, evAV] <;> rfl) (Wat.nil)))))) ?_
        show OpsA _ _ _ [_] _ _
        refine OpsA.call (call_withinB (a := IntKind.i64.wrap (q.tdiv 2)) (n := 6) (by omega) (by omega)) rfl (by simp -implicitDefEqProofs [hXX, xCells, nc, nc', u0, u1, at0, at1, m2, e1, evAV] <;> rfl) (by kernel_rfl) (by simp -implicitDefEqProofs) rfl ?_
        rintro x σ' ⟨rfl, rfl⟩
        refine OpsA.nil ?_
        refine AnyW.take 10 rfl (by kernel_rfl) (by kernel_rfl) rfl (by simp -implicitDefEqProofs [hXX, xCells, nc, nc', u0, u1, at0, at1, m2, e1, evAV] <;> rfl) ?_
        refine AnyW.op 12 rfl (by kernel_rfl) [] (by kernel_rfl) (Wat.cons rfl rfl rfl (by simp -implicitDefEqProofs [hXX, xCells, nc, nc', u0, u1, at0, at1, m2, e1, evAV] <;> rfl) (Wat.cons rfl rfl rfl (by simp -implicitDefEqProofs [hXX, xCells, nc, nc', u0, u1, at0, at1, m2, e1, evAV] <;> rfl) (Wat.cons rfl rfl rfl (by simp -implicitDefEqProofs [hXX, xCells, nc, nc', u0, u1, at0, at1, m2, e1, evAV] <;> rfl) (Wat.cons rfl rfl rfl (by simp -implicitDefEqProofs [hXX, xCells, nc, nc', u0, u1, at0, at1, m2, e1, evAV] <;> rfl) (Wat.nil))))) ?_
        show OpsA _ _ _ [_] _ _
        refine OpsA.all (by simp -implicitDefEqProofs [hXX, xCells, nc, nc', u0, u1, at0, at1, m2, e1, evAV] <;> rfl) ?_
        refine AnyW.done (P := Try.prog) (by kernel_rfl) (Wat.nil) ?_
        refine Tri.seqR ttok rfl ?_
        refine OpsA.runX 2 (by simp -implicitDefEqProofs [hXX, xCells, nc, nc', u0, u1, at0, at1, m2, e1, evAV] <;> rfl) ?_
        simp only [List.drop]
        refine OpsA.call (bask (e := ⟨[112, 97, 121], within (IntKind.i64.wrap (q.tdiv 2)) 6, q.tmod 5⟩) h hbk) rfl (by simp -implicitDefEqProofs [hXX, xCells, nc, nc', u0, u1, at0, at1, m2, e1, evAV] <;> rfl) (by kernel_rfl) (by simp -implicitDefEqProofs) rfl ?_
        rintro x σ' ⟨rfl, rfl⟩
        refine OpsA.nil ?_
        refine Tri.region ttok rfl ?_
        refine OpsA.runX 2 (by simp -implicitDefEqProofs [hXX, xCells, nc, nc', u0, u1, at0, at1, m2, e1, evAV] <;> rfl) ?_
        simp only [List.drop]
        refine OpsA.call (xask (e := ⟨[112, 97, 121], within (IntKind.i64.wrap (q.tdiv 2)) 6, q.tmod 5⟩) h hbk) rfl (by simp -implicitDefEqProofs [hXX, xCells, nc, nc', u0, u1, at0, at1, m2, e1, evAV] <;> rfl) (by kernel_rfl) (by simp -implicitDefEqProofs) rfl ?_
        rintro x_ σ' ⟨rfl, g1, rfl⟩
        refine OpsA.nil ?_
        try simp only [thenQ, blockQ]
        refine Tri.seqX ttok rfl (by simp -implicitDefEqProofs [hXX, xCells, nc, nc', u0, u1, at0, at1, m2, e1, evAV] <;> rfl) ?_
        refine Tri.ret ?_
        refine fnPost.tmp (.inr rfl) rfl rfl (by simp -implicitDefEqProofs <;> rfl) (by exact True.intro) ?_ ⟨by simp -implicitDefEqProofs, askW w ⟨[112, 97, 121], within (IntKind.i64.wrap (q.tdiv 2)) 6, q.tmod 5⟩, askX x ⟨[112, 97, 121], within (IntKind.i64.wrap (q.tdiv 2)) 6, q.tmod 5⟩, g1, ?_, h.ask _ (by have := within_bounds (IntKind.i64.wrap (q.tdiv 2)) (n := 6) (by omega); simp only; omega)⟩
        · simp only [σ_put, σ_with, u0, u1]
          exact both_stays (by omega) fun n hn => by simp -implicitDefEqProofs [upd_ne, show n ≠ c by omega, show n ≠ c + 1 by omega]
        · simp only [σ_put, σ_with, u0, u1, both_cut (show c0 + 7 ≤ c by omega)]
          repeat rw [cutσ_new _ (by omega)]
          rw [hcσ]
    · refine Tri.seq (Tri.drawW ttok mix rfl ?_)
      refine AnyW.take 1 rfl (by kernel_rfl) (by kernel_rfl) rfl (by simp -implicitDefEqProofs [hXX, xCells, nc, nc', u0, u1, at0, at1, m2, e1, evAV] <;> rfl) ?_
      refine AnyW.take 5 rfl (by kernel_rfl) (by kernel_rfl) rfl (by simp -implicitDefEqProofs [hXX, xCells, nc, nc', u0, u1, at0, at1, m2, e1, evAV] <;> rfl) ?_
      refine AnyW.take 8 rfl (by kernel_rfl) (by kernel_rfl) rfl (by simp -implicitDefEqProofs [hXX, xCells, nc, nc', u0, u1, at0, at1, m2, e1, evAV] <;> rfl) ?_
      refine AnyW.readX 0 rfl (by kernel_rfl) rfl (by simp -implicitDefEqProofs [hXX, xCells, nc, nc', u0, u1, at0, at1, m2, e1, evAV] <;> rfl) ?_
      refine AnyW.readX 6 rfl (by kernel_rfl) rfl (by simp -implicitDefEqProofs [hXX, xCells, nc, nc', u0, u1, at0, at1, m2, e1, evAV] <;> rfl) ?_
      refine AnyW.readX 9 rfl (by kernel_rfl) rfl (by simp -implicitDefEqProofs [hXX, xCells, nc, nc', u0, u1, at0, at1, m2, e1, evAV] <;> rfl) ?_
      refine AnyW.op2 2 11 rfl rfl (by kernel_rfl) [9, 6, 0] [9, 6, 0] (by kernel_rfl) (by kernel_rfl) (Wat.cons rfl rfl rfl (by simp -implicitDefEqProofs [hXX, xCells, nc, nc', u0, u1, at0, at1, m2, e1, evAV] <;> rfl) (Wat.cons rfl rfl rfl (by simp -implicitDefEqProofs [hXX, xCells, nc, nc', u0, u1, at0, at1, m2, e1, evAV] <;> rfl) (Wat.cons rfl rfl rfl (by simp -implicitDefEqProofs [hXX, xCells, nc, nc', u0, u1, at0, at1, m2, e1, evAV] <;> rfl) (Wat.nil)))) ?_ ?_
      · show OpsA _ _ _ [_] _ _
        refine OpsA.call (call_withinB (a := q) (n := 2) (by omega) (by omega)) rfl (by simp -implicitDefEqProofs [hXX, xCells, nc, nc', u0, u1, at0, at1, m2, e1, evAV] <;> rfl) (by kernel_rfl) (by simp -implicitDefEqProofs) rfl ?_
        rintro x σ' ⟨rfl, rfl⟩
        rw [hw2]
        refine OpsA.nil ?_
        refine AnyW.readX 3 rfl (by kernel_rfl) rfl (by simp -implicitDefEqProofs [hXX, xCells, nc, nc', u0, u1, at0, at1, m2, e1, evAV] <;> rfl) ?_
        refine AnyW.readX 4 rfl (by kernel_rfl) rfl (by simp -implicitDefEqProofs [hXX, xCells, nc, nc', u0, u1, at0, at1, m2, e1, evAV] <;> rfl) ?_
        refine AnyW.op2 7 11 rfl rfl (by kernel_rfl) [4, 3, 9, 0] [4, 3, 9, 6, 0] (by kernel_rfl) (by kernel_rfl) (Wat.cons rfl rfl rfl (by simp -implicitDefEqProofs [hXX, xCells, nc, nc', u0, u1, at0, at1, m2, e1, evAV] <;> rfl) (Wat.cons rfl rfl rfl (by simp -implicitDefEqProofs [hXX, xCells, nc, nc', u0, u1, at0, at1, m2, e1, evAV] <;> rfl) (Wat.cons rfl rfl rfl (by simp -implicitDefEqProofs [hXX, xCells, nc, nc', u0, u1, at0, at1, m2, e1, evAV] <;> rfl) (Wat.cons rfl rfl rfl (by simp -implicitDefEqProofs [hXX, xCells, nc, nc', u0, u1, at0, at1, m2, e1, evAV] <;> rfl) (Wat.cons rfl rfl rfl (by simp -implicitDefEqProofs [hXX, xCells, nc, nc', u0, u1, at0, at1, m2, e1, evAV] <;> rfl) (Wat.nil)))))) ?_ ?_
        · show OpsA _ _ _ [_] _ _
          refine OpsA.call (call_withinB (a := IntKind.i64.wrap (q.tdiv 2)) (n := 6) (by omega) (by omega)) rfl (by simp -implicitDefEqProofs [hXX, xCells, nc, nc', u0, u1, at0, at1, m2, e1, evAV] <;> rfl) (by kernel_rfl) (by simp -implicitDefEqProofs) rfl ?_
          rintro x σ' ⟨rfl, rfl⟩
          refine OpsA.nil ?_
          refine AnyW.take 10 rfl (by kernel_rfl) (by kernel_rfl) rfl (by simp -implicitDefEqProofs [hXX, xCells, nc, nc', u0, u1, at0, at1, m2, e1, evAV] <;> rfl) ?_
          refine AnyW.op 11 rfl (by kernel_rfl) [4, 3, 9, 0] (by kernel_rfl) (Wat.cons rfl rfl rfl (by simp -implicitDefEqProofs [hXX, xCells, nc, nc', u0, u1, at0, at1, m2, e1, evAV] <;> rfl) (Wat.cons rfl rfl rfl (by simp -implicitDefEqProofs [hXX, xCells, nc, nc', u0, u1, at0, at1, m2, e1, evAV] <;> rfl) (Wat.cons rfl rfl rfl (by simp -implicitDefEqProofs [hXX, xCells, nc, nc', u0, u1, at0, at1, m2, e1, evAV] <;> rfl) (Wat.cons rfl rfl rfl (by simp -implicitDefEqProofs [hXX, xCells, nc, nc', u0, u1, at0, at1, m2, e1, evAV] <;> rfl) (Wat.nil))))) ?_
          show OpsA _ _ _ [_] _ _
          refine OpsA.new (c) rfl (by simp -implicitDefEqProofs [hXX, xCells, nc, nc', u0, u1, at0, at1, m2, e1, evAV] <;> rfl) (by simp -implicitDefEqProofs) (by simp -implicitDefEqProofs <;> rfl) ?_
          refine OpsA.nil ?_
          refine AnyW.op 12 rfl (by kernel_rfl) [] (by kernel_rfl) (Wat.cons rfl rfl rfl (by simp -implicitDefEqProofs [hXX, xCells, nc, nc', u0, u1, at0, at1, m2, e1, evAV] <;> rfl) (Wat.cons rfl rfl rfl (by simp -implicitDefEqProofs [hXX, xCells, nc, nc', u0, u1, at0, at1, m2, e1, evAV] <;> rfl) (Wat.cons rfl rfl rfl (by simp -implicitDefEqProofs [hXX, xCells, nc, nc', u0, u1, at0, at1, m2, e1, evAV] <;> rfl) (Wat.cons rfl rfl rfl (by simp -implicitDefEqProofs [hXX, xCells, nc, nc', u0, u1, at0, at1, m2, e1, evAV] <;> rfl) (Wat.nil))))) ?_
          show OpsA _ _ _ [_] _ _
          refine OpsA.all (by simp -implicitDefEqProofs [hXX, xCells, nc, nc', u0, u1, at0, at1, m2, e1, evAV] <;> rfl) ?_
          refine AnyW.done (P := Try.prog) (by kernel_rfl) (Wat.nil) ?_
          refine Tri.seqR ttok rfl ?_
          refine OpsA.runX 2 (by simp -implicitDefEqProofs [hXX, xCells, nc, nc', u0, u1, at0, at1, m2, e1, evAV] <;> rfl) ?_
          simp only [List.drop]
          refine OpsA.call (bask (e := ⟨[115, 104, 105, 112], within (IntKind.i64.wrap (q.tdiv 2)) 6, q.tmod 5⟩) h hbk) rfl (by simp -implicitDefEqProofs [hXX, xCells, nc, nc', u0, u1, at0, at1, m2, e1, evAV] <;> rfl) (by kernel_rfl) (by simp -implicitDefEqProofs) rfl ?_
          rintro x σ' ⟨rfl, rfl⟩
          refine OpsA.nil ?_
          refine Tri.region ttok rfl ?_
          refine OpsA.runX 2 (by simp -implicitDefEqProofs [hXX, xCells, nc, nc', u0, u1, at0, at1, m2, e1, evAV] <;> rfl) ?_
          simp only [List.drop]
          refine OpsA.call (xask (e := ⟨[115, 104, 105, 112], within (IntKind.i64.wrap (q.tdiv 2)) 6, q.tmod 5⟩) h hbk) rfl (by simp -implicitDefEqProofs [hXX, xCells, nc, nc', u0, u1, at0, at1, m2, e1, evAV] <;> rfl) (by kernel_rfl) (by simp -implicitDefEqProofs) rfl ?_
          rintro x_ σ' ⟨rfl, g1, rfl⟩
          refine OpsA.nil ?_
          try simp only [thenQ, blockQ]
          refine Tri.seqX ttok rfl (by simp -implicitDefEqProofs [hXX, xCells, nc, nc', u0, u1, at0, at1, m2, e1, evAV] <;> rfl) ?_
          refine Tri.ret ?_
          refine fnPost.tmp (.inr rfl) rfl rfl (by simp -implicitDefEqProofs <;> rfl) (by exact True.intro) ?_ ⟨by simp -implicitDefEqProofs, askW w ⟨[115, 104, 105, 112], within (IntKind.i64.wrap (q.tdiv 2)) 6, q.tmod 5⟩, askX x ⟨[115, 104, 105, 112], within (IntKind.i64.wrap (q.tdiv 2)) 6, q.tmod 5⟩, g1, ?_, h.ask _ (by have := within_bounds (IntKind.i64.wrap (q.tdiv 2)) (n := 6) (by omega); simp only; omega)⟩
          · simp only [σ_put, σ_with, u0, u1]
            exact both_stays (by omega) fun n hn => by simp -implicitDefEqProofs [upd_ne, show n ≠ c by omega, show n ≠ c + 1 by omega]
          · simp only [σ_put, σ_with, u0, u1, both_cut (show c0 + 7 ≤ c by omega)]
            repeat rw [cutσ_new _ (by omega)]
            rw [hcσ]
        · show OpsA _ _ _ [_] _ _
          refine OpsA.new (c) rfl (by simp -implicitDefEqProofs [hXX, xCells, nc, nc', u0, u1, at0, at1, m2, e1, evAV] <;> rfl) (by simp -implicitDefEqProofs) (by simp -implicitDefEqProofs <;> rfl) ?_
          refine OpsA.nil ?_
          refine AnyW.op 7 rfl (by kernel_rfl) [4, 3, 9, 0] (by kernel_rfl) (Wat.cons rfl rfl rfl (by simp -implicitDefEqProofs [hXX, xCells, nc, nc', u0, u1, at0, at1, m2, e1, evAV] <;> rfl) (Wat.cons rfl rfl rfl (by simp -implicitDefEqProofs [hXX, xCells, nc, nc', u0, u1, at0, at1, m2, e1, evAV] <;> rfl) (Wat.cons rfl rfl rfl (by simp -implicitDefEqProofs [hXX, xCells, nc, nc', u0, u1, at0, at1, m2, e1, evAV] <;> rfl) (Wat.cons rfl rfl rfl (by simp -implicitDefEqProofs [hXX, xCells, nc, nc', u0, u1, at0, at1, m2, e1, evAV] <;> rfl) (Wat.cons rfl rfl rfl (by simp -implicitDefEqProofs [hXX, xCells, nc, nc', u0, u1, at0, at1, m2, e1, evAV] <;> rfl) (Wat.nil)))))) ?_
          show OpsA _ _ _ [_] _ _
          refine OpsA.call (call_withinB (a := IntKind.i64.wrap (q.tdiv 2)) (n := 6) (by omega) (by omega)) rfl (by simp -implicitDefEqProofs [hXX, xCells, nc, nc', u0, u1, at0, at1, m2, e1, evAV] <;> rfl) (by kernel_rfl) (by simp -implicitDefEqProofs) rfl ?_
          rintro x σ' ⟨rfl, rfl⟩
          refine OpsA.nil ?_
          refine AnyW.take 10 rfl (by kernel_rfl) (by kernel_rfl) rfl (by simp -implicitDefEqProofs [hXX, xCells, nc, nc', u0, u1, at0, at1, m2, e1, evAV] <;> rfl) ?_
          refine AnyW.op 12 rfl (by kernel_rfl) [] (by kernel_rfl) (Wat.cons rfl rfl rfl (by simp -implicitDefEqProofs [hXX, xCells, nc, nc', u0, u1, at0, at1, m2, e1, evAV] <;> rfl) (Wat.cons rfl rfl rfl (by simp -implicitDefEqProofs [hXX, xCells, nc, nc', u0, u1, at0, at1, m2, e1, evAV] <;> rfl) (Wat.cons rfl rfl rfl (by simp -implicitDefEqProofs [hXX, xCells, nc, nc', u0, u1, at0, at1, m2, e1, evAV] <;> rfl) (Wat.cons rfl rfl rfl (by simp -implicitDefEqProofs [hXX, xCells, nc, nc', u0, u1, at0, at1, m2, e1, evAV] <;> rfl) (Wat.nil))))) ?_
          show OpsA _ _ _ [_] _ _
          refine OpsA.all (by simp -implicitDefEqProofs [hXX, xCells, nc, nc', u0, u1, at0, at1, m2, e1, evAV] <;> rfl) ?_
          refine AnyW.done (P := Try.prog) (by kernel_rfl) (Wat.nil) ?_
          refine Tri.seqR ttok rfl ?_
          refine OpsA.runX 2 (by simp -implicitDefEqProofs [hXX, xCells, nc, nc', u0, u1, at0, at1, m2, e1, evAV] <;> rfl) ?_
          simp only [List.drop]
          refine OpsA.call (bask (e := ⟨[115, 104, 105, 112], within (IntKind.i64.wrap (q.tdiv 2)) 6, q.tmod 5⟩) h hbk) rfl (by simp -implicitDefEqProofs [hXX, xCells, nc, nc', u0, u1, at0, at1, m2, e1, evAV] <;> rfl) (by kernel_rfl) (by simp -implicitDefEqProofs) rfl ?_
          rintro x σ' ⟨rfl, rfl⟩
          refine OpsA.nil ?_
          refine Tri.region ttok rfl ?_
          refine OpsA.runX 2 (by simp -implicitDefEqProofs [hXX, xCells, nc, nc', u0, u1, at0, at1, m2, e1, evAV] <;> rfl) ?_
          simp only [List.drop]
          refine OpsA.call (xask (e := ⟨[115, 104, 105, 112], within (IntKind.i64.wrap (q.tdiv 2)) 6, q.tmod 5⟩) h hbk) rfl (by simp -implicitDefEqProofs [hXX, xCells, nc, nc', u0, u1, at0, at1, m2, e1, evAV] <;> rfl) (by kernel_rfl) (by simp -implicitDefEqProofs) rfl ?_
          rintro x_ σ' ⟨rfl, g1, rfl⟩
          refine OpsA.nil ?_
          try simp only [thenQ, blockQ]
          refine Tri.seqX ttok rfl (by simp -implicitDefEqProofs [hXX, xCells, nc, nc', u0, u1, at0, at1, m2, e1, evAV] <;> rfl) ?_
          refine Tri.ret ?_
          refine fnPost.tmp (.inr rfl) rfl rfl (by simp -implicitDefEqProofs <;> rfl) (by exact True.intro) ?_ ⟨by simp -implicitDefEqProofs, askW w ⟨[115, 104, 105, 112], within (IntKind.i64.wrap (q.tdiv 2)) 6, q.tmod 5⟩, askX x ⟨[115, 104, 105, 112], within (IntKind.i64.wrap (q.tdiv 2)) 6, q.tmod 5⟩, g1, ?_, h.ask _ (by have := within_bounds (IntKind.i64.wrap (q.tdiv 2)) (n := 6) (by omega); simp only; omega)⟩
          · simp only [σ_put, σ_with, u0, u1]
            exact both_stays (by omega) fun n hn => by simp -implicitDefEqProofs [upd_ne, show n ≠ c by omega, show n ≠ c + 1 by omega]
          · simp only [σ_put, σ_with, u0, u1, both_cut (show c0 + 7 ≤ c by omega)]
            repeat rw [cutσ_new _ (by omega)]
            rw [hcσ]
      · show OpsA _ _ _ [_] _ _
        refine OpsA.new (c) rfl (by simp -implicitDefEqProofs [hXX, xCells, nc, nc', u0, u1, at0, at1, m2, e1, evAV] <;> rfl) (by simp -implicitDefEqProofs) (by simp -implicitDefEqProofs <;> rfl) ?_
        refine OpsA.nil ?_
        refine AnyW.op 2 rfl (by kernel_rfl) [9, 6, 0] (by kernel_rfl) (Wat.cons rfl rfl rfl (by simp -implicitDefEqProofs [hXX, xCells, nc, nc', u0, u1, at0, at1, m2, e1, evAV] <;> rfl) (Wat.cons rfl rfl rfl (by simp -implicitDefEqProofs [hXX, xCells, nc, nc', u0, u1, at0, at1, m2, e1, evAV] <;> rfl) (Wat.cons rfl rfl rfl (by simp -implicitDefEqProofs [hXX, xCells, nc, nc', u0, u1, at0, at1, m2, e1, evAV] <;> rfl) (Wat.nil)))) ?_
        show OpsA _ _ _ [_] _ _
        refine OpsA.call (call_withinB (a := q) (n := 2) (by omega) (by omega)) rfl (by simp -implicitDefEqProofs [hXX, xCells, nc, nc', u0, u1, at0, at1, m2, e1, evAV] <;> rfl) (by kernel_rfl) (by simp -implicitDefEqProofs) rfl ?_
        rintro x σ' ⟨rfl, rfl⟩
        rw [hw2]
        refine OpsA.nil ?_
        refine AnyW.readX 3 rfl (by kernel_rfl) rfl (by simp -implicitDefEqProofs [hXX, xCells, nc, nc', u0, u1, at0, at1, m2, e1, evAV] <;> rfl) ?_
        refine AnyW.readX 4 rfl (by kernel_rfl) rfl (by simp -implicitDefEqProofs [hXX, xCells, nc, nc', u0, u1, at0, at1, m2, e1, evAV] <;> rfl) ?_
        refine AnyW.op 7 rfl (by kernel_rfl) [4, 3, 9, 0] (by kernel_rfl) (Wat.cons rfl rfl rfl (by simp -implicitDefEqProofs [hXX, xCells, nc, nc', u0, u1, at0, at1, m2, e1, evAV] <;> rfl) (Wat.cons rfl rfl rfl (by simp -implicitDefEqProofs [hXX, xCells, nc, nc', u0, u1, at0, at1, m2, e1, evAV] <;> rfl) (Wat.cons rfl rfl rfl (by simp -implicitDefEqProofs [hXX, xCells, nc, nc', u0, u1, at0, at1, m2, e1, evAV] <;> rfl) (Wat.cons rfl rfl rfl (by simp -implicitDefEqProofs [hXX, xCells, nc, nc', u0, u1, at0, at1, m2, e1, evAV] <;> rfl) (Wat.cons rfl rfl rfl (by simp -implicitDefEqProofs [hXX, xCells, nc, nc', u0, u1, at0, at1, m2, e1, evAV] <;> rfl) (Wat.nil)))))) ?_
        show OpsA _ _ _ [_] _ _
        refine OpsA.call (call_withinB (a := IntKind.i64.wrap (q.tdiv 2)) (n := 6) (by omega) (by omega)) rfl (by simp -implicitDefEqProofs [hXX, xCells, nc, nc', u0, u1, at0, at1, m2, e1, evAV] <;> rfl) (by kernel_rfl) (by simp -implicitDefEqProofs) rfl ?_
        rintro x σ' ⟨rfl, rfl⟩
        refine OpsA.nil ?_
        refine AnyW.take 10 rfl (by kernel_rfl) (by kernel_rfl) rfl (by simp -implicitDefEqProofs [hXX, xCells, nc, nc', u0, u1, at0, at1, m2, e1, evAV] <;> rfl) ?_
        refine AnyW.op 12 rfl (by kernel_rfl) [] (by kernel_rfl) (Wat.cons rfl rfl rfl (by simp -implicitDefEqProofs [hXX, xCells, nc, nc', u0, u1, at0, at1, m2, e1, evAV] <;> rfl) (Wat.cons rfl rfl rfl (by simp -implicitDefEqProofs [hXX, xCells, nc, nc', u0, u1, at0, at1, m2, e1, evAV] <;> rfl) (Wat.cons rfl rfl rfl (by simp -implicitDefEqProofs [hXX, xCells, nc, nc', u0, u1, at0, at1, m2, e1, evAV] <;> rfl) (Wat.cons rfl rfl rfl (by simp -implicitDefEqProofs [hXX, xCells, nc, nc', u0, u1, at0, at1, m2, e1, evAV] <;> rfl) (Wat.nil))))) ?_
        show OpsA _ _ _ [_] _ _
        refine OpsA.all (by simp -implicitDefEqProofs [hXX, xCells, nc, nc', u0, u1, at0, at1, m2, e1, evAV] <;> rfl) ?_
        refine AnyW.done (P := Try.prog) (by kernel_rfl) (Wat.nil) ?_
        refine Tri.seqR ttok rfl ?_
        refine OpsA.runX 2 (by simp -implicitDefEqProofs [hXX, xCells, nc, nc', u0, u1, at0, at1, m2, e1, evAV] <;> rfl) ?_
        simp only [List.drop]
        refine OpsA.call (bask (e := ⟨[115, 104, 105, 112], within (IntKind.i64.wrap (q.tdiv 2)) 6, q.tmod 5⟩) h hbk) rfl (by simp -implicitDefEqProofs [hXX, xCells, nc, nc', u0, u1, at0, at1, m2, e1, evAV] <;> rfl) (by kernel_rfl) (by simp -implicitDefEqProofs) rfl ?_
        rintro x σ' ⟨rfl, rfl⟩
        refine OpsA.nil ?_
        refine Tri.region ttok rfl ?_
        refine OpsA.runX 2 (by simp -implicitDefEqProofs [hXX, xCells, nc, nc', u0, u1, at0, at1, m2, e1, evAV] <;> rfl) ?_
        simp only [List.drop]
        refine OpsA.call (xask (e := ⟨[115, 104, 105, 112], within (IntKind.i64.wrap (q.tdiv 2)) 6, q.tmod 5⟩) h hbk) rfl (by simp -implicitDefEqProofs [hXX, xCells, nc, nc', u0, u1, at0, at1, m2, e1, evAV] <;> rfl) (by kernel_rfl) (by simp -implicitDefEqProofs) rfl ?_
        rintro x_ σ' ⟨rfl, g1, rfl⟩
        refine OpsA.nil ?_
        try simp only [thenQ, blockQ]
        refine Tri.seqX ttok rfl (by simp -implicitDefEqProofs [hXX, xCells, nc, nc', u0, u1, at0, at1, m2, e1, evAV] <;> rfl) ?_
        refine Tri.ret ?_
        refine fnPost.tmp (.inr rfl) rfl rfl (by simp -implicitDefEqProofs <;> rfl) (by exact True.intro) ?_ ⟨by simp -implicitDefEqProofs, askW w ⟨[115, 104, 105, 112], within (IntKind.i64.wrap (q.tdiv 2)) 6, q.tmod 5⟩, askX x ⟨[115, 104, 105, 112], within (IntKind.i64.wrap (q.tdiv 2)) 6, q.tmod 5⟩, g1, ?_, h.ask _ (by have := within_bounds (IntKind.i64.wrap (q.tdiv 2)) (n := 6) (by omega); simp only; omega)⟩
        · simp only [σ_put, σ_with, u0, u1]
          exact both_stays (by omega) fun n hn => by simp -implicitDefEqProofs [upd_ne, show n ≠ c by omega, show n ≠ c + 1 by omega]
        · simp only [σ_put, σ_with, u0, u1, both_cut (show c0 + 7 ≤ c by omega)]
          repeat rw [cutσ_new _ (by omega)]
          rw [hcσ]
  · refine OpsA.nil ?_
    try simp only [hm']
    refine Tri.block ?_
    refine Tri.seq ?_
    refine Tri.seqX ttok rfl (by simp -implicitDefEqProofs [hXX, xCells, nc, nc', u0, u1, at0, at1, m2, e1] <;> rfl) ?_
    refine Tri.cond (b := false) (by simp -implicitDefEqProofs [hXX, xCells, nc, nc', u0, u1, at0, at1, m2, e1]) (fun h => by cases h) (fun _ => ?_)
    refine Tri.seqX ttok rfl (by simp -implicitDefEqProofs [hXX, xCells, nc, nc', u0, u1, at0, at1, m2, e1] <;> rfl) ?_
    refine Tri.cond (b := false) (by simp -implicitDefEqProofs [hXX, xCells, nc, nc', u0, u1, at0, at1, m2, e1]) (fun h => by cases h) (fun _ => ?_)
    refine Tri.x ttok rfl (by simp -implicitDefEqProofs [hXX, xCells, nc, nc', u0, u1, at0, at1, m2, e1] <;> rfl) ?_
    refine Tri.cond (b := false) (by simp -implicitDefEqProofs [hXX, xCells, nc, nc', u0, u1, at0, at1, m2, e1]) (fun h => by cases h) (fun _ => ?_)
    refine Tri.seqX ttok rfl (by simp -implicitDefEqProofs [hXX, xCells, nc, nc', u0, u1, at0, at1, m2, e1] <;> rfl) ?_
    refine Tri.cond (b := true) (by simp -implicitDefEqProofs [hXX, xCells, nc, nc', u0, u1, at0, at1, m2, e1]) (fun _ => ?_) (fun h => by cases h)
    refine Tri.seqR ttok rfl ?_
    refine OpsA.runX 2 (by simp -implicitDefEqProofs [hXX, xCells, nc, nc', u0, u1, at0, at1, m2, e1] <;> rfl) ?_
    simp only [List.drop]
    refine OpsA.call (call_withinB (a := q) (n := 7) (by omega) (by omega)) rfl (by simp -implicitDefEqProofs [hXX, xCells, nc, nc', u0, u1, at0, at1, m2, e1] <;> rfl) (by kernel_rfl) (by simp -implicitDefEqProofs) rfl ?_
    rintro x σ' ⟨rfl, rfl⟩
    refine OpsA.call (bforget (key := within q 7) h hbk) rfl (by simp -implicitDefEqProofs [hXX, xCells, nc, nc', u0, u1, at0, at1, m2, e1] <;> rfl) (by kernel_rfl) (by simp -implicitDefEqProofs) rfl ?_
    rintro x σ' ⟨rfl, rfl⟩
    refine OpsA.nil ?_
    refine Tri.region ttok rfl ?_
    refine OpsA.runX 2 (by simp -implicitDefEqProofs [hXX, xCells, nc, nc', u0, u1, at0, at1, m2, e1] <;> rfl) ?_
    simp only [List.drop]
    refine OpsA.call (call_withinB (a := q) (n := 7) (by omega) (by omega)) rfl (by simp -implicitDefEqProofs [hXX, xCells, nc, nc', u0, u1, at0, at1, m2, e1] <;> rfl) (by kernel_rfl) (by simp -implicitDefEqProofs) rfl ?_
    rintro x σ' ⟨rfl, rfl⟩
    refine OpsA.call (xforget (key := within q 7) h hbk) rfl (by simp -implicitDefEqProofs [hXX, xCells, nc, nc', u0, u1, at0, at1, m2, e1] <;> rfl) (by kernel_rfl) (by simp -implicitDefEqProofs) rfl ?_
    rintro x_ σ' ⟨rfl, g1, rfl⟩
    refine OpsA.nil ?_
    try simp only [thenQ, blockQ]
    refine Tri.seqX ttok rfl (by simp -implicitDefEqProofs [hXX, xCells, nc, nc', u0, u1, at0, at1, m2, e1] <;> rfl) ?_
    refine Tri.ret ?_
    refine fnPost.tmp (.inr rfl) rfl rfl (by simp -implicitDefEqProofs <;> rfl) (by exact True.intro) ?_ ⟨by simp -implicitDefEqProofs, forgetW w (within q 7), forgetX x (within q 7), g1, ?_, (h.forget _).more⟩
    · simp only [σ_put, σ_with, u0, u1]
      exact both_stays (by omega) fun n hn => by simp -implicitDefEqProofs [upd_ne, show n ≠ c by omega, show n ≠ c + 1 by omega]
    · simp only [σ_put, σ_with, u0, u1, both_cut (show c0 + 7 ≤ c by omega)]
      repeat rw [cutσ_new _ (by omega)]
      rw [hcσ]
  · refine OpsA.nil ?_
    try simp only [hm']
    refine Tri.block ?_
    refine Tri.seq ?_
    refine Tri.seqX ttok rfl (by simp -implicitDefEqProofs [hXX, xCells, nc, nc', u0, u1, at0, at1, m2, e1] <;> rfl) ?_
    refine Tri.cond (b := false) (by simp -implicitDefEqProofs [hXX, xCells, nc, nc', u0, u1, at0, at1, m2, e1]) (fun h => by cases h) (fun _ => ?_)
    refine Tri.seqX ttok rfl (by simp -implicitDefEqProofs [hXX, xCells, nc, nc', u0, u1, at0, at1, m2, e1] <;> rfl) ?_
    refine Tri.cond (b := false) (by simp -implicitDefEqProofs [hXX, xCells, nc, nc', u0, u1, at0, at1, m2, e1]) (fun h => by cases h) (fun _ => ?_)
    refine Tri.x ttok rfl (by simp -implicitDefEqProofs [hXX, xCells, nc, nc', u0, u1, at0, at1, m2, e1] <;> rfl) ?_
    refine Tri.cond (b := false) (by simp -implicitDefEqProofs [hXX, xCells, nc, nc', u0, u1, at0, at1, m2, e1]) (fun h => by cases h) (fun _ => ?_)
    refine Tri.seqX ttok rfl (by simp -implicitDefEqProofs [hXX, xCells, nc, nc', u0, u1, at0, at1, m2, e1] <;> rfl) ?_
    refine Tri.cond (b := false) (by simp -implicitDefEqProofs [hXX, xCells, nc, nc', u0, u1, at0, at1, m2, e1]) (fun h => by cases h) (fun _ => ?_)
    refine Tri.seq ?_
    refine Tri.seqX ttok rfl (by simp -implicitDefEqProofs [hXX, xCells, nc, nc', u0, u1, at0, at1, m2, e1] <;> rfl) ?_
    refine Tri.cond (b := true) (by simp -implicitDefEqProofs [hXX, xCells, nc, nc', u0, u1, at0, at1, m2, e1]) (fun _ => ?_) (fun h => by cases h)
    refine Tri.skip ?_
    refine Tri.cond (b := true) (by simp -implicitDefEqProofs [hXX, xCells, nc, nc', u0, u1, at0, at1, m2, e1]) (fun _ => ?_) (fun h => by cases h)
    refine Tri.seqR ttok rfl ?_
    refine OpsA.runX 1 (by simp -implicitDefEqProofs [hXX, xCells, nc, nc', u0, u1, at0, at1, m2, e1] <;> rfl) ?_
    simp only [List.drop]
    refine OpsA.call (btick h hbk) rfl (by simp -implicitDefEqProofs [hXX, xCells, nc, nc', u0, u1, at0, at1, m2, e1] <;> rfl) (by kernel_rfl) (by simp -implicitDefEqProofs) rfl ?_
    rintro x σ' ⟨rfl, rfl⟩
    refine OpsA.nil ?_
    refine Tri.region ttok rfl ?_
    refine OpsA.runX 1 (by simp -implicitDefEqProofs [hXX, xCells, nc, nc', u0, u1, at0, at1, m2, e1] <;> rfl) ?_
    simp only [List.drop]
    refine OpsA.call (xtick h hbk) rfl (by simp -implicitDefEqProofs [hXX, xCells, nc, nc', u0, u1, at0, at1, m2, e1] <;> rfl) (by kernel_rfl) (by simp -implicitDefEqProofs) rfl ?_
    rintro x_ σ' ⟨rfl, g1, rfl⟩
    refine OpsA.nil ?_
    try simp only [thenQ, blockQ]
    refine Tri.seqX ttok rfl (by simp -implicitDefEqProofs [hXX, xCells, nc, nc', u0, u1, at0, at1, m2, e1] <;> rfl) ?_
    refine Tri.ret ?_
    refine fnPost.tmp (.inr rfl) rfl rfl (by simp -implicitDefEqProofs <;> rfl) (by exact True.intro) ?_ ⟨by simp -implicitDefEqProofs, tickW w, tickX x, g1, ?_, h.tick (by omega)⟩
    · simp only [σ_put, σ_with, u0, u1]
      exact both_stays (by omega) fun n hn => by simp -implicitDefEqProofs [upd_ne, show n ≠ c by omega, show n ≠ c + 1 by omega]
    · simp only [σ_put, σ_with, u0, u1, both_cut (show c0 + 7 ≤ c by omega)]
      repeat rw [cutσ_new _ (by omega)]
      rw [hcσ]
  · refine OpsA.nil ?_
    try simp only [hm']
    refine Tri.block ?_
    refine Tri.seq ?_
    refine Tri.seqX ttok rfl (by simp -implicitDefEqProofs [hXX, xCells, nc, nc', u0, u1, at0, at1, m2, e1] <;> rfl) ?_
    refine Tri.cond (b := false) (by simp -implicitDefEqProofs [hXX, xCells, nc, nc', u0, u1, at0, at1, m2, e1]) (fun h => by cases h) (fun _ => ?_)
    refine Tri.seqX ttok rfl (by simp -implicitDefEqProofs [hXX, xCells, nc, nc', u0, u1, at0, at1, m2, e1] <;> rfl) ?_
    refine Tri.cond (b := false) (by simp -implicitDefEqProofs [hXX, xCells, nc, nc', u0, u1, at0, at1, m2, e1]) (fun h => by cases h) (fun _ => ?_)
    refine Tri.x ttok rfl (by simp -implicitDefEqProofs [hXX, xCells, nc, nc', u0, u1, at0, at1, m2, e1] <;> rfl) ?_
    refine Tri.cond (b := false) (by simp -implicitDefEqProofs [hXX, xCells, nc, nc', u0, u1, at0, at1, m2, e1]) (fun h => by cases h) (fun _ => ?_)
    refine Tri.seqX ttok rfl (by simp -implicitDefEqProofs [hXX, xCells, nc, nc', u0, u1, at0, at1, m2, e1] <;> rfl) ?_
    refine Tri.cond (b := false) (by simp -implicitDefEqProofs [hXX, xCells, nc, nc', u0, u1, at0, at1, m2, e1]) (fun h => by cases h) (fun _ => ?_)
    refine Tri.seq ?_
    refine Tri.seqX ttok rfl (by simp -implicitDefEqProofs [hXX, xCells, nc, nc', u0, u1, at0, at1, m2, e1] <;> rfl) ?_
    refine Tri.cond (b := false) (by simp -implicitDefEqProofs [hXX, xCells, nc, nc', u0, u1, at0, at1, m2, e1]) (fun h => by cases h) (fun _ => ?_)
    refine Tri.x ttok rfl (by simp -implicitDefEqProofs [hXX, xCells, nc, nc', u0, u1, at0, at1, m2, e1] <;> rfl) ?_
    refine Tri.cond (b := true) (by simp -implicitDefEqProofs [hXX, xCells, nc, nc', u0, u1, at0, at1, m2, e1]) (fun _ => ?_) (fun h => by cases h)
    refine Tri.seqR ttok rfl ?_
    refine OpsA.runX 1 (by simp -implicitDefEqProofs [hXX, xCells, nc, nc', u0, u1, at0, at1, m2, e1] <;> rfl) ?_
    simp only [List.drop]
    refine OpsA.call (btick h hbk) rfl (by simp -implicitDefEqProofs [hXX, xCells, nc, nc', u0, u1, at0, at1, m2, e1] <;> rfl) (by kernel_rfl) (by simp -implicitDefEqProofs) rfl ?_
    rintro x σ' ⟨rfl, rfl⟩
    refine OpsA.nil ?_
    refine Tri.region ttok rfl ?_
    refine OpsA.runX 1 (by simp -implicitDefEqProofs [hXX, xCells, nc, nc', u0, u1, at0, at1, m2, e1] <;> rfl) ?_
    simp only [List.drop]
    refine OpsA.call (xtick h hbk) rfl (by simp -implicitDefEqProofs [hXX, xCells, nc, nc', u0, u1, at0, at1, m2, e1] <;> rfl) (by kernel_rfl) (by simp -implicitDefEqProofs) rfl ?_
    rintro x_ σ' ⟨rfl, g1, rfl⟩
    refine OpsA.nil ?_
    try simp only [thenQ, blockQ]
    refine Tri.seqX ttok rfl (by simp -implicitDefEqProofs [hXX, xCells, nc, nc', u0, u1, at0, at1, m2, e1] <;> rfl) ?_
    refine Tri.ret ?_
    refine fnPost.tmp (.inr rfl) rfl rfl (by simp -implicitDefEqProofs <;> rfl) (by exact True.intro) ?_ ⟨by simp -implicitDefEqProofs, tickW w, tickX x, g1, ?_, h.tick (by omega)⟩
    · simp only [σ_put, σ_with, u0, u1]
      exact both_stays (by omega) fun n hn => by simp -implicitDefEqProofs [upd_ne, show n ≠ c by omega, show n ≠ c + 1 by omega]
    · simp only [σ_put, σ_with, u0, u1, both_cut (show c0 + 7 ≤ c by omega)]
      repeat rw [cutσ_new _ (by omega)]
      rw [hcσ]
  · refine OpsA.nil ?_
    try simp only [hm']
    refine Tri.block ?_
    refine Tri.seq ?_
    refine Tri.seqX ttok rfl (by simp -implicitDefEqProofs [hXX, xCells, nc, nc', u0, u1, at0, at1, m2, e1] <;> rfl) ?_
    refine Tri.cond (b := false) (by simp -implicitDefEqProofs [hXX, xCells, nc, nc', u0, u1, at0, at1, m2, e1]) (fun h => by cases h) (fun _ => ?_)
    refine Tri.seqX ttok rfl (by simp -implicitDefEqProofs [hXX, xCells, nc, nc', u0, u1, at0, at1, m2, e1] <;> rfl) ?_
    refine Tri.cond (b := false) (by simp -implicitDefEqProofs [hXX, xCells, nc, nc', u0, u1, at0, at1, m2, e1]) (fun h => by cases h) (fun _ => ?_)
    refine Tri.x ttok rfl (by simp -implicitDefEqProofs [hXX, xCells, nc, nc', u0, u1, at0, at1, m2, e1] <;> rfl) ?_
    refine Tri.cond (b := false) (by simp -implicitDefEqProofs [hXX, xCells, nc, nc', u0, u1, at0, at1, m2, e1]) (fun h => by cases h) (fun _ => ?_)
    refine Tri.seqX ttok rfl (by simp -implicitDefEqProofs [hXX, xCells, nc, nc', u0, u1, at0, at1, m2, e1] <;> rfl) ?_
    refine Tri.cond (b := false) (by simp -implicitDefEqProofs [hXX, xCells, nc, nc', u0, u1, at0, at1, m2, e1]) (fun h => by cases h) (fun _ => ?_)
    refine Tri.seq ?_
    refine Tri.seqX ttok rfl (by simp -implicitDefEqProofs [hXX, xCells, nc, nc', u0, u1, at0, at1, m2, e1] <;> rfl) ?_
    refine Tri.cond (b := false) (by simp -implicitDefEqProofs [hXX, xCells, nc, nc', u0, u1, at0, at1, m2, e1]) (fun h => by cases h) (fun _ => ?_)
    refine Tri.x ttok rfl (by simp -implicitDefEqProofs [hXX, xCells, nc, nc', u0, u1, at0, at1, m2, e1] <;> rfl) ?_
    refine Tri.cond (b := false) (by simp -implicitDefEqProofs [hXX, xCells, nc, nc', u0, u1, at0, at1, m2, e1]) (fun h => by cases h) (fun _ => ?_)
    refine Tri.seq ?_
    refine Tri.seqX ttok rfl (by simp -implicitDefEqProofs [hXX, xCells, nc, nc', u0, u1, at0, at1, m2, e1] <;> rfl) ?_
    refine Tri.cond (b := true) (by simp -implicitDefEqProofs [hXX, xCells, nc, nc', u0, u1, at0, at1, m2, e1]) (fun _ => ?_) (fun h => by cases h)
    refine Tri.skip ?_
    refine Tri.cond (b := true) (by simp -implicitDefEqProofs [hXX, xCells, nc, nc', u0, u1, at0, at1, m2, e1]) (fun _ => ?_) (fun h => by cases h)
    refine Tri.seqR ttok rfl ?_
    refine OpsA.runX 2 (by simp -implicitDefEqProofs [hXX, xCells, nc, nc', u0, u1, at0, at1, m2, e1] <;> rfl) ?_
    simp only [List.drop]
    refine OpsA.call (bdeliver (i := i) h hbk) rfl (by simp -implicitDefEqProofs [hXX, xCells, nc, nc', u0, u1, at0, at1, m2, e1] <;> rfl) (by kernel_rfl) (by simp -implicitDefEqProofs) rfl ?_
    rintro x σ' ⟨rfl, rfl⟩
    generalize he : (deliverW w i).1.1 = ev
    generalize hb : (deliverW w i).1.2 = bb
    refine OpsA.runX 3 (by simp -implicitDefEqProofs [hXX, xCells, nc, nc', u0, u1, at0, at1, m2, e1, evAV, eqFs] <;> rfl) ?_
    simp only [List.drop]
    refine OpsA.new (c) rfl (by simp -implicitDefEqProofs [hXX, xCells, nc, nc', u0, u1, at0, at1, m2, e1, evAV, eqFs] <;> rfl) (by simp -implicitDefEqProofs) (by simp -implicitDefEqProofs <;> rfl) ?_
    refine OpsA.all (by simp -implicitDefEqProofs [hXX, xCells, nc, nc', u0, u1, at0, at1, m2, e1, evAV, eqFs] <;> rfl) ?_
    refine Tri.seqR ttok rfl ?_
    refine OpsA.runX 2 (by simp -implicitDefEqProofs [hXX, xCells, nc, nc', u0, u1, at0, at1, m2, e1, evAV, eqFs] <;> rfl) ?_
    simp only [List.drop]
    refine OpsA.call (xdeliver (i := i) h hbk) rfl (by simp -implicitDefEqProofs [hXX, xCells, nc, nc', u0, u1, at0, at1, m2, e1, evAV, eqFs] <;> rfl) (by kernel_rfl) (by simp -implicitDefEqProofs) rfl ?_
    rintro x_ σ' ⟨rfl, g1, rfl⟩
    rw [he, hb]
    refine OpsA.runX 3 (by simp -implicitDefEqProofs [hXX, xCells, nc, nc', u0, u1, at0, at1, m2, e1, evAV, eqFs] <;> rfl) ?_
    simp only [List.drop]
    refine OpsA.new (c + 1) rfl (by simp -implicitDefEqProofs [hXX, xCells, nc, nc', u0, u1, at0, at1, m2, e1, evAV, eqFs] <;> rfl) (by simp -implicitDefEqProofs) (by simp -implicitDefEqProofs <;> rfl) ?_
    refine OpsA.all (by simp -implicitDefEqProofs [hXX, xCells, nc, nc', u0, u1, at0, at1, m2, e1, evAV, eqFs] <;> rfl) ?_
    skip
    refine Tri.seqR ttok rfl ?_
    refine OpsA.allG (by simp -implicitDefEqProofs [hXX, xCells, nc, nc', u0, u1, at0, at1, m2, e1, evAV, eqFs] <;> rfl) ?_
    refine Tri.ret ?_
    refine fnPost.tmp (.inr rfl) rfl rfl (by simp -implicitDefEqProofs <;> rfl) (by exact True.intro) ?_ ⟨by simp -implicitDefEqProofs, (deliverW w i).2, (deliverX x i).2, g1, ?_, h.deliver i⟩
    · simp only [σ_put, σ_with, u0, u1]
      exact both_stays (by omega) fun n hn => by simp -implicitDefEqProofs [upd_ne, show n ≠ c by omega, show n ≠ c + 1 by omega]
    · simp only [σ_put, σ_with, u0, u1, both_cut (show c0 + 7 ≤ c by omega)]
      repeat rw [cutσ_new _ (by omega)]
      rw [hcσ]
  · refine OpsA.nil ?_
    try simp only [hm']
    refine Tri.block ?_
    refine Tri.seq ?_
    refine Tri.seqX ttok rfl (by simp -implicitDefEqProofs [hXX, xCells, nc, nc', u0, u1, at0, at1, m2, e1] <;> rfl) ?_
    refine Tri.cond (b := false) (by simp -implicitDefEqProofs [hXX, xCells, nc, nc', u0, u1, at0, at1, m2, e1]) (fun h => by cases h) (fun _ => ?_)
    refine Tri.seqX ttok rfl (by simp -implicitDefEqProofs [hXX, xCells, nc, nc', u0, u1, at0, at1, m2, e1] <;> rfl) ?_
    refine Tri.cond (b := false) (by simp -implicitDefEqProofs [hXX, xCells, nc, nc', u0, u1, at0, at1, m2, e1]) (fun h => by cases h) (fun _ => ?_)
    refine Tri.x ttok rfl (by simp -implicitDefEqProofs [hXX, xCells, nc, nc', u0, u1, at0, at1, m2, e1] <;> rfl) ?_
    refine Tri.cond (b := false) (by simp -implicitDefEqProofs [hXX, xCells, nc, nc', u0, u1, at0, at1, m2, e1]) (fun h => by cases h) (fun _ => ?_)
    refine Tri.seqX ttok rfl (by simp -implicitDefEqProofs [hXX, xCells, nc, nc', u0, u1, at0, at1, m2, e1] <;> rfl) ?_
    refine Tri.cond (b := false) (by simp -implicitDefEqProofs [hXX, xCells, nc, nc', u0, u1, at0, at1, m2, e1]) (fun h => by cases h) (fun _ => ?_)
    refine Tri.seq ?_
    refine Tri.seqX ttok rfl (by simp -implicitDefEqProofs [hXX, xCells, nc, nc', u0, u1, at0, at1, m2, e1] <;> rfl) ?_
    refine Tri.cond (b := false) (by simp -implicitDefEqProofs [hXX, xCells, nc, nc', u0, u1, at0, at1, m2, e1]) (fun h => by cases h) (fun _ => ?_)
    refine Tri.x ttok rfl (by simp -implicitDefEqProofs [hXX, xCells, nc, nc', u0, u1, at0, at1, m2, e1] <;> rfl) ?_
    refine Tri.cond (b := false) (by simp -implicitDefEqProofs [hXX, xCells, nc, nc', u0, u1, at0, at1, m2, e1]) (fun h => by cases h) (fun _ => ?_)
    refine Tri.seq ?_
    refine Tri.seqX ttok rfl (by simp -implicitDefEqProofs [hXX, xCells, nc, nc', u0, u1, at0, at1, m2, e1] <;> rfl) ?_
    refine Tri.cond (b := false) (by simp -implicitDefEqProofs [hXX, xCells, nc, nc', u0, u1, at0, at1, m2, e1]) (fun h => by cases h) (fun _ => ?_)
    refine Tri.seqX ttok rfl (by simp -implicitDefEqProofs [hXX, xCells, nc, nc', u0, u1, at0, at1, m2, e1] <;> rfl) ?_
    refine Tri.cond (b := true) (by simp -implicitDefEqProofs [hXX, xCells, nc, nc', u0, u1, at0, at1, m2, e1]) (fun _ => ?_) (fun h => by cases h)
    refine Tri.skip ?_
    refine Tri.cond (b := true) (by simp -implicitDefEqProofs [hXX, xCells, nc, nc', u0, u1, at0, at1, m2, e1]) (fun _ => ?_) (fun h => by cases h)
    refine Tri.seqR ttok rfl ?_
    refine OpsA.runX 2 (by simp -implicitDefEqProofs [hXX, xCells, nc, nc', u0, u1, at0, at1, m2, e1] <;> rfl) ?_
    simp only [List.drop]
    refine OpsA.call (bdeliver (i := i) h hbk) rfl (by simp -implicitDefEqProofs [hXX, xCells, nc, nc', u0, u1, at0, at1, m2, e1] <;> rfl) (by kernel_rfl) (by simp -implicitDefEqProofs) rfl ?_
    rintro x σ' ⟨rfl, rfl⟩
    generalize he : (deliverW w i).1.1 = ev
    generalize hb : (deliverW w i).1.2 = bb
    refine OpsA.runX 3 (by simp -implicitDefEqProofs [hXX, xCells, nc, nc', u0, u1, at0, at1, m2, e1, evAV, eqFs] <;> rfl) ?_
    simp only [List.drop]
    refine OpsA.new (c) rfl (by simp -implicitDefEqProofs [hXX, xCells, nc, nc', u0, u1, at0, at1, m2, e1, evAV, eqFs] <;> rfl) (by simp -implicitDefEqProofs) (by simp -implicitDefEqProofs <;> rfl) ?_
    refine OpsA.all (by simp -implicitDefEqProofs [hXX, xCells, nc, nc', u0, u1, at0, at1, m2, e1, evAV, eqFs] <;> rfl) ?_
    refine Tri.seqR ttok rfl ?_
    refine OpsA.runX 2 (by simp -implicitDefEqProofs [hXX, xCells, nc, nc', u0, u1, at0, at1, m2, e1, evAV, eqFs] <;> rfl) ?_
    simp only [List.drop]
    refine OpsA.call (xdeliver (i := i) h hbk) rfl (by simp -implicitDefEqProofs [hXX, xCells, nc, nc', u0, u1, at0, at1, m2, e1, evAV, eqFs] <;> rfl) (by kernel_rfl) (by simp -implicitDefEqProofs) rfl ?_
    rintro x_ σ' ⟨rfl, g1, rfl⟩
    rw [he, hb]
    refine OpsA.runX 3 (by simp -implicitDefEqProofs [hXX, xCells, nc, nc', u0, u1, at0, at1, m2, e1, evAV, eqFs] <;> rfl) ?_
    simp only [List.drop]
    refine OpsA.new (c + 1) rfl (by simp -implicitDefEqProofs [hXX, xCells, nc, nc', u0, u1, at0, at1, m2, e1, evAV, eqFs] <;> rfl) (by simp -implicitDefEqProofs) (by simp -implicitDefEqProofs <;> rfl) ?_
    refine OpsA.all (by simp -implicitDefEqProofs [hXX, xCells, nc, nc', u0, u1, at0, at1, m2, e1, evAV, eqFs] <;> rfl) ?_
    skip
    refine Tri.seqR ttok rfl ?_
    refine OpsA.allG (by simp -implicitDefEqProofs [hXX, xCells, nc, nc', u0, u1, at0, at1, m2, e1, evAV, eqFs] <;> rfl) ?_
    refine Tri.ret ?_
    refine fnPost.tmp (.inr rfl) rfl rfl (by simp -implicitDefEqProofs <;> rfl) (by exact True.intro) ?_ ⟨by simp -implicitDefEqProofs, (deliverW w i).2, (deliverX x i).2, g1, ?_, h.deliver i⟩
    · simp only [σ_put, σ_with, u0, u1]
      exact both_stays (by omega) fun n hn => by simp -implicitDefEqProofs [upd_ne, show n ≠ c by omega, show n ≠ c + 1 by omega]
    · simp only [σ_put, σ_with, u0, u1, both_cut (show c0 + 7 ≤ c by omega)]
      repeat rw [cutσ_new _ (by omega)]
      rw [hcσ]
  · refine OpsA.nil ?_
    try simp only [hm']
    refine Tri.block ?_
    refine Tri.seq ?_
    refine Tri.seqX ttok rfl (by simp -implicitDefEqProofs [hXX, xCells, nc, nc', u0, u1, at0, at1, m2, e1] <;> rfl) ?_
    refine Tri.cond (b := false) (by simp -implicitDefEqProofs [hXX, xCells, nc, nc', u0, u1, at0, at1, m2, e1]) (fun h => by cases h) (fun _ => ?_)
    refine Tri.seqX ttok rfl (by simp -implicitDefEqProofs [hXX, xCells, nc, nc', u0, u1, at0, at1, m2, e1] <;> rfl) ?_
    refine Tri.cond (b := false) (by simp -implicitDefEqProofs [hXX, xCells, nc, nc', u0, u1, at0, at1, m2, e1]) (fun h => by cases h) (fun _ => ?_)
    refine Tri.x ttok rfl (by simp -implicitDefEqProofs [hXX, xCells, nc, nc', u0, u1, at0, at1, m2, e1] <;> rfl) ?_
    refine Tri.cond (b := false) (by simp -implicitDefEqProofs [hXX, xCells, nc, nc', u0, u1, at0, at1, m2, e1]) (fun h => by cases h) (fun _ => ?_)
    refine Tri.seqX ttok rfl (by simp -implicitDefEqProofs [hXX, xCells, nc, nc', u0, u1, at0, at1, m2, e1] <;> rfl) ?_
    refine Tri.cond (b := false) (by simp -implicitDefEqProofs [hXX, xCells, nc, nc', u0, u1, at0, at1, m2, e1]) (fun h => by cases h) (fun _ => ?_)
    refine Tri.seq ?_
    refine Tri.seqX ttok rfl (by simp -implicitDefEqProofs [hXX, xCells, nc, nc', u0, u1, at0, at1, m2, e1] <;> rfl) ?_
    refine Tri.cond (b := false) (by simp -implicitDefEqProofs [hXX, xCells, nc, nc', u0, u1, at0, at1, m2, e1]) (fun h => by cases h) (fun _ => ?_)
    refine Tri.x ttok rfl (by simp -implicitDefEqProofs [hXX, xCells, nc, nc', u0, u1, at0, at1, m2, e1] <;> rfl) ?_
    refine Tri.cond (b := false) (by simp -implicitDefEqProofs [hXX, xCells, nc, nc', u0, u1, at0, at1, m2, e1]) (fun h => by cases h) (fun _ => ?_)
    refine Tri.seq ?_
    refine Tri.seqX ttok rfl (by simp -implicitDefEqProofs [hXX, xCells, nc, nc', u0, u1, at0, at1, m2, e1] <;> rfl) ?_
    refine Tri.cond (b := false) (by simp -implicitDefEqProofs [hXX, xCells, nc, nc', u0, u1, at0, at1, m2, e1]) (fun h => by cases h) (fun _ => ?_)
    refine Tri.seqX ttok rfl (by simp -implicitDefEqProofs [hXX, xCells, nc, nc', u0, u1, at0, at1, m2, e1] <;> rfl) ?_
    refine Tri.cond (b := false) (by simp -implicitDefEqProofs [hXX, xCells, nc, nc', u0, u1, at0, at1, m2, e1]) (fun h => by cases h) (fun _ => ?_)
    refine Tri.x ttok rfl (by simp -implicitDefEqProofs [hXX, xCells, nc, nc', u0, u1, at0, at1, m2, e1] <;> rfl) ?_
    refine Tri.cond (b := true) (by simp -implicitDefEqProofs [hXX, xCells, nc, nc', u0, u1, at0, at1, m2, e1]) (fun _ => ?_) (fun h => by cases h)
    refine Tri.seqR ttok rfl ?_
    refine OpsA.runX 2 (by simp -implicitDefEqProofs [hXX, xCells, nc, nc', u0, u1, at0, at1, m2, e1] <;> rfl) ?_
    simp only [List.drop]
    refine OpsA.call (bdeliver (i := i) h hbk) rfl (by simp -implicitDefEqProofs [hXX, xCells, nc, nc', u0, u1, at0, at1, m2, e1] <;> rfl) (by kernel_rfl) (by simp -implicitDefEqProofs) rfl ?_
    rintro x σ' ⟨rfl, rfl⟩
    generalize he : (deliverW w i).1.1 = ev
    generalize hb : (deliverW w i).1.2 = bb
    refine OpsA.runX 3 (by simp -implicitDefEqProofs [hXX, xCells, nc, nc', u0, u1, at0, at1, m2, e1, evAV, eqFs] <;> rfl) ?_
    simp only [List.drop]
    refine OpsA.new (c) rfl (by simp -implicitDefEqProofs [hXX, xCells, nc, nc', u0, u1, at0, at1, m2, e1, evAV, eqFs] <;> rfl) (by simp -implicitDefEqProofs) (by simp -implicitDefEqProofs <;> rfl) ?_
    refine OpsA.all (by simp -implicitDefEqProofs [hXX, xCells, nc, nc', u0, u1, at0, at1, m2, e1, evAV, eqFs] <;> rfl) ?_
    refine Tri.seqR ttok rfl ?_
    refine OpsA.runX 2 (by simp -implicitDefEqProofs [hXX, xCells, nc, nc', u0, u1, at0, at1, m2, e1, evAV, eqFs] <;> rfl) ?_
    simp only [List.drop]
    refine OpsA.call (xdeliver (i := i) h hbk) rfl (by simp -implicitDefEqProofs [hXX, xCells, nc, nc', u0, u1, at0, at1, m2, e1, evAV, eqFs] <;> rfl) (by kernel_rfl) (by simp -implicitDefEqProofs) rfl ?_
    rintro x_ σ' ⟨rfl, g1, rfl⟩
    rw [he, hb]
    refine OpsA.runX 3 (by simp -implicitDefEqProofs [hXX, xCells, nc, nc', u0, u1, at0, at1, m2, e1, evAV, eqFs] <;> rfl) ?_
    simp only [List.drop]
    refine OpsA.new (c + 1) rfl (by simp -implicitDefEqProofs [hXX, xCells, nc, nc', u0, u1, at0, at1, m2, e1, evAV, eqFs] <;> rfl) (by simp -implicitDefEqProofs) (by simp -implicitDefEqProofs <;> rfl) ?_
    refine OpsA.all (by simp -implicitDefEqProofs [hXX, xCells, nc, nc', u0, u1, at0, at1, m2, e1, evAV, eqFs] <;> rfl) ?_
    skip
    refine Tri.seqR ttok rfl ?_
    refine OpsA.allG (by simp -implicitDefEqProofs [hXX, xCells, nc, nc', u0, u1, at0, at1, m2, e1, evAV, eqFs] <;> rfl) ?_
    refine Tri.ret ?_
    refine fnPost.tmp (.inr rfl) rfl rfl (by simp -implicitDefEqProofs <;> rfl) (by exact True.intro) ?_ ⟨by simp -implicitDefEqProofs, (deliverW w i).2, (deliverX x i).2, g1, ?_, h.deliver i⟩
    · simp only [σ_put, σ_with, u0, u1]
      exact both_stays (by omega) fun n hn => by simp -implicitDefEqProofs [upd_ne, show n ≠ c by omega, show n ≠ c + 1 by omega]
    · simp only [σ_put, σ_with, u0, u1, both_cut (show c0 + 7 ≤ c by omega)]
      repeat rw [cutσ_new _ (by omega)]
      rw [hcσ]
  · refine OpsA.nil ?_
    try simp only [hm']
    refine Tri.block ?_
    refine Tri.seq ?_
    refine Tri.seqX ttok rfl (by simp -implicitDefEqProofs [hXX, xCells, nc, nc', u0, u1, at0, at1, m2, e1] <;> rfl) ?_
    refine Tri.cond (b := false) (by simp -implicitDefEqProofs [hXX, xCells, nc, nc', u0, u1, at0, at1, m2, e1]) (fun h => by cases h) (fun _ => ?_)
    refine Tri.seqX ttok rfl (by simp -implicitDefEqProofs [hXX, xCells, nc, nc', u0, u1, at0, at1, m2, e1] <;> rfl) ?_
    refine Tri.cond (b := false) (by simp -implicitDefEqProofs [hXX, xCells, nc, nc', u0, u1, at0, at1, m2, e1]) (fun h => by cases h) (fun _ => ?_)
    refine Tri.x ttok rfl (by simp -implicitDefEqProofs [hXX, xCells, nc, nc', u0, u1, at0, at1, m2, e1] <;> rfl) ?_
    refine Tri.cond (b := false) (by simp -implicitDefEqProofs [hXX, xCells, nc, nc', u0, u1, at0, at1, m2, e1]) (fun h => by cases h) (fun _ => ?_)
    refine Tri.seqX ttok rfl (by simp -implicitDefEqProofs [hXX, xCells, nc, nc', u0, u1, at0, at1, m2, e1] <;> rfl) ?_
    refine Tri.cond (b := false) (by simp -implicitDefEqProofs [hXX, xCells, nc, nc', u0, u1, at0, at1, m2, e1]) (fun h => by cases h) (fun _ => ?_)
    refine Tri.seq ?_
    refine Tri.seqX ttok rfl (by simp -implicitDefEqProofs [hXX, xCells, nc, nc', u0, u1, at0, at1, m2, e1] <;> rfl) ?_
    refine Tri.cond (b := false) (by simp -implicitDefEqProofs [hXX, xCells, nc, nc', u0, u1, at0, at1, m2, e1]) (fun h => by cases h) (fun _ => ?_)
    refine Tri.x ttok rfl (by simp -implicitDefEqProofs [hXX, xCells, nc, nc', u0, u1, at0, at1, m2, e1] <;> rfl) ?_
    refine Tri.cond (b := false) (by simp -implicitDefEqProofs [hXX, xCells, nc, nc', u0, u1, at0, at1, m2, e1]) (fun h => by cases h) (fun _ => ?_)
    refine Tri.seq ?_
    refine Tri.seqX ttok rfl (by simp -implicitDefEqProofs [hXX, xCells, nc, nc', u0, u1, at0, at1, m2, e1] <;> rfl) ?_
    refine Tri.cond (b := false) (by simp -implicitDefEqProofs [hXX, xCells, nc, nc', u0, u1, at0, at1, m2, e1]) (fun h => by cases h) (fun _ => ?_)
    refine Tri.seqX ttok rfl (by simp -implicitDefEqProofs [hXX, xCells, nc, nc', u0, u1, at0, at1, m2, e1] <;> rfl) ?_
    refine Tri.cond (b := false) (by simp -implicitDefEqProofs [hXX, xCells, nc, nc', u0, u1, at0, at1, m2, e1]) (fun h => by cases h) (fun _ => ?_)
    refine Tri.x ttok rfl (by simp -implicitDefEqProofs [hXX, xCells, nc, nc', u0, u1, at0, at1, m2, e1] <;> rfl) ?_
    refine Tri.cond (b := false) (by simp -implicitDefEqProofs [hXX, xCells, nc, nc', u0, u1, at0, at1, m2, e1]) (fun h => by cases h) (fun _ => ?_)
    refine Tri.seqX ttok rfl (by simp -implicitDefEqProofs [hXX, xCells, nc, nc', u0, u1, at0, at1, m2, e1] <;> rfl) ?_
    refine Tri.cond (b := true) (by simp -implicitDefEqProofs [hXX, xCells, nc, nc', u0, u1, at0, at1, m2, e1]) (fun _ => ?_) (fun h => by cases h)
    refine Tri.seqR ttok rfl ?_
    refine OpsA.runX 2 (by simp -implicitDefEqProofs [hXX, xCells, nc, nc', u0, u1, at0, at1, m2, e1] <;> rfl) ?_
    simp only [List.drop]
    refine OpsA.call (bdrop (i := i) h hbk) rfl (by simp -implicitDefEqProofs [hXX, xCells, nc, nc', u0, u1, at0, at1, m2, e1] <;> rfl) (by kernel_rfl) (by simp -implicitDefEqProofs) rfl ?_
    rintro x σ' ⟨rfl, rfl⟩
    refine OpsA.runX 2 (by simp -implicitDefEqProofs [hXX, xCells, nc, nc', u0, u1, at0, at1, m2, e1] <;> rfl) ?_
    simp only [List.drop]
    refine OpsA.call (xdrop (i := i) h hbk) rfl (by simp -implicitDefEqProofs [hXX, xCells, nc, nc', u0, u1, at0, at1, m2, e1] <;> rfl) (by kernel_rfl) (by simp -implicitDefEqProofs) rfl ?_
    rintro x_ σ' ⟨rfl, g1, rfl⟩
    refine OpsA.all (by simp -implicitDefEqProofs [hXX, xCells, nc, nc', u0, u1, at0, at1, m2, e1] <;> rfl) ?_
    refine Tri.ret ?_
    refine fnPost.tmp (.inr rfl) rfl rfl (by simp -implicitDefEqProofs <;> rfl) (by exact True.intro) ?_ ⟨by simp -implicitDefEqProofs, dropW w i, dropX x i, g1, ?_, (h.drop i).more⟩
    · simp only [σ_put, σ_with, u0, u1]
      exact both_stays (by omega) fun n hn => by simp -implicitDefEqProofs [upd_ne, show n ≠ c by omega, show n ≠ c + 1 by omega]
    · simp only [σ_put, σ_with, u0, u1, both_cut (show c0 + 7 ≤ c by omega)]
      repeat rw [cutσ_new _ (by omega)]
      rw [hcσ]
  · refine OpsA.nil ?_
    try simp only [hm']
    refine Tri.block ?_
    refine Tri.seq ?_
    refine Tri.seqX ttok rfl (by simp -implicitDefEqProofs [hXX, xCells, nc, nc', u0, u1, at0, at1, m2, e1] <;> rfl) ?_
    refine Tri.cond (b := false) (by simp -implicitDefEqProofs [hXX, xCells, nc, nc', u0, u1, at0, at1, m2, e1]) (fun h => by cases h) (fun _ => ?_)
    refine Tri.seqX ttok rfl (by simp -implicitDefEqProofs [hXX, xCells, nc, nc', u0, u1, at0, at1, m2, e1] <;> rfl) ?_
    refine Tri.cond (b := false) (by simp -implicitDefEqProofs [hXX, xCells, nc, nc', u0, u1, at0, at1, m2, e1]) (fun h => by cases h) (fun _ => ?_)
    refine Tri.x ttok rfl (by simp -implicitDefEqProofs [hXX, xCells, nc, nc', u0, u1, at0, at1, m2, e1] <;> rfl) ?_
    refine Tri.cond (b := false) (by simp -implicitDefEqProofs [hXX, xCells, nc, nc', u0, u1, at0, at1, m2, e1]) (fun h => by cases h) (fun _ => ?_)
    refine Tri.seqX ttok rfl (by simp -implicitDefEqProofs [hXX, xCells, nc, nc', u0, u1, at0, at1, m2, e1] <;> rfl) ?_
    refine Tri.cond (b := false) (by simp -implicitDefEqProofs [hXX, xCells, nc, nc', u0, u1, at0, at1, m2, e1]) (fun h => by cases h) (fun _ => ?_)
    refine Tri.seq ?_
    refine Tri.seqX ttok rfl (by simp -implicitDefEqProofs [hXX, xCells, nc, nc', u0, u1, at0, at1, m2, e1] <;> rfl) ?_
    refine Tri.cond (b := false) (by simp -implicitDefEqProofs [hXX, xCells, nc, nc', u0, u1, at0, at1, m2, e1]) (fun h => by cases h) (fun _ => ?_)
    refine Tri.x ttok rfl (by simp -implicitDefEqProofs [hXX, xCells, nc, nc', u0, u1, at0, at1, m2, e1] <;> rfl) ?_
    refine Tri.cond (b := false) (by simp -implicitDefEqProofs [hXX, xCells, nc, nc', u0, u1, at0, at1, m2, e1]) (fun h => by cases h) (fun _ => ?_)
    refine Tri.seq ?_
    refine Tri.seqX ttok rfl (by simp -implicitDefEqProofs [hXX, xCells, nc, nc', u0, u1, at0, at1, m2, e1] <;> rfl) ?_
    refine Tri.cond (b := false) (by simp -implicitDefEqProofs [hXX, xCells, nc, nc', u0, u1, at0, at1, m2, e1]) (fun h => by cases h) (fun _ => ?_)
    refine Tri.seqX ttok rfl (by simp -implicitDefEqProofs [hXX, xCells, nc, nc', u0, u1, at0, at1, m2, e1] <;> rfl) ?_
    refine Tri.cond (b := false) (by simp -implicitDefEqProofs [hXX, xCells, nc, nc', u0, u1, at0, at1, m2, e1]) (fun h => by cases h) (fun _ => ?_)
    refine Tri.x ttok rfl (by simp -implicitDefEqProofs [hXX, xCells, nc, nc', u0, u1, at0, at1, m2, e1] <;> rfl) ?_
    refine Tri.cond (b := false) (by simp -implicitDefEqProofs [hXX, xCells, nc, nc', u0, u1, at0, at1, m2, e1]) (fun h => by cases h) (fun _ => ?_)
    refine Tri.seqX ttok rfl (by simp -implicitDefEqProofs [hXX, xCells, nc, nc', u0, u1, at0, at1, m2, e1] <;> rfl) ?_
    refine Tri.cond (b := false) (by simp -implicitDefEqProofs [hXX, xCells, nc, nc', u0, u1, at0, at1, m2, e1]) (fun h => by cases h) (fun _ => ?_)
    refine Tri.seqX ttok rfl (by simp -implicitDefEqProofs [hXX, xCells, nc, nc', u0, u1, at0, at1, m2, e1] <;> rfl) ?_
    refine Tri.cond (b := true) (by simp -implicitDefEqProofs [hXX, xCells, nc, nc', u0, u1, at0, at1, m2, e1]) (fun _ => ?_) (fun h => by cases h)
    refine Tri.seqR ttok rfl ?_
    refine OpsA.runX 2 (by simp -implicitDefEqProofs [hXX, xCells, nc, nc', u0, u1, at0, at1, m2, e1] <;> rfl) ?_
    simp only [List.drop]
    refine OpsA.call (btwice (i := i) h hbk) rfl (by simp -implicitDefEqProofs [hXX, xCells, nc, nc', u0, u1, at0, at1, m2, e1] <;> rfl) (by kernel_rfl) (by simp -implicitDefEqProofs) rfl ?_
    rintro x σ' ⟨rfl, rfl⟩
    refine OpsA.runX 2 (by simp -implicitDefEqProofs [hXX, xCells, nc, nc', u0, u1, at0, at1, m2, e1] <;> rfl) ?_
    simp only [List.drop]
    refine OpsA.call (xtwice (i := i) h hbk) rfl (by simp -implicitDefEqProofs [hXX, xCells, nc, nc', u0, u1, at0, at1, m2, e1] <;> rfl) (by kernel_rfl) (by simp -implicitDefEqProofs) rfl ?_
    rintro x_ σ' ⟨rfl, g1, rfl⟩
    refine OpsA.all (by simp -implicitDefEqProofs [hXX, xCells, nc, nc', u0, u1, at0, at1, m2, e1] <;> rfl) ?_
    refine Tri.ret ?_
    refine fnPost.tmp (.inr rfl) rfl rfl (by simp -implicitDefEqProofs <;> rfl) (by exact True.intro) ?_ ⟨by simp -implicitDefEqProofs, twiceW w i, twiceX x i, g1, ?_, h.twice i⟩
    · simp only [σ_put, σ_with, u0, u1]
      exact both_stays (by omega) fun n hn => by simp -implicitDefEqProofs [upd_ne, show n ≠ c by omega, show n ≠ c + 1 by omega]
    · simp only [σ_put, σ_with, u0, u1, both_cut (show c0 + 7 ≤ c by omega)]
      repeat rw [cutσ_new _ (by omega)]
      rw [hcσ]
  · refine OpsA.nil ?_
    try simp only [hm']
    refine Tri.block ?_
    refine Tri.seq ?_
    refine Tri.seqX ttok rfl (by simp -implicitDefEqProofs [hXX, xCells, nc, nc', u0, u1, at0, at1, m2, e1] <;> rfl) ?_
    refine Tri.cond (b := false) (by simp -implicitDefEqProofs [hXX, xCells, nc, nc', u0, u1, at0, at1, m2, e1]) (fun h => by cases h) (fun _ => ?_)
    refine Tri.seqX ttok rfl (by simp -implicitDefEqProofs [hXX, xCells, nc, nc', u0, u1, at0, at1, m2, e1] <;> rfl) ?_
    refine Tri.cond (b := false) (by simp -implicitDefEqProofs [hXX, xCells, nc, nc', u0, u1, at0, at1, m2, e1]) (fun h => by cases h) (fun _ => ?_)
    refine Tri.x ttok rfl (by simp -implicitDefEqProofs [hXX, xCells, nc, nc', u0, u1, at0, at1, m2, e1] <;> rfl) ?_
    refine Tri.cond (b := false) (by simp -implicitDefEqProofs [hXX, xCells, nc, nc', u0, u1, at0, at1, m2, e1]) (fun h => by cases h) (fun _ => ?_)
    refine Tri.seqX ttok rfl (by simp -implicitDefEqProofs [hXX, xCells, nc, nc', u0, u1, at0, at1, m2, e1] <;> rfl) ?_
    refine Tri.cond (b := false) (by simp -implicitDefEqProofs [hXX, xCells, nc, nc', u0, u1, at0, at1, m2, e1]) (fun h => by cases h) (fun _ => ?_)
    refine Tri.seq ?_
    refine Tri.seqX ttok rfl (by simp -implicitDefEqProofs [hXX, xCells, nc, nc', u0, u1, at0, at1, m2, e1] <;> rfl) ?_
    refine Tri.cond (b := false) (by simp -implicitDefEqProofs [hXX, xCells, nc, nc', u0, u1, at0, at1, m2, e1]) (fun h => by cases h) (fun _ => ?_)
    refine Tri.x ttok rfl (by simp -implicitDefEqProofs [hXX, xCells, nc, nc', u0, u1, at0, at1, m2, e1] <;> rfl) ?_
    refine Tri.cond (b := false) (by simp -implicitDefEqProofs [hXX, xCells, nc, nc', u0, u1, at0, at1, m2, e1]) (fun h => by cases h) (fun _ => ?_)
    refine Tri.seq ?_
    refine Tri.seqX ttok rfl (by simp -implicitDefEqProofs [hXX, xCells, nc, nc', u0, u1, at0, at1, m2, e1] <;> rfl) ?_
    refine Tri.cond (b := false) (by simp -implicitDefEqProofs [hXX, xCells, nc, nc', u0, u1, at0, at1, m2, e1]) (fun h => by cases h) (fun _ => ?_)
    refine Tri.seqX ttok rfl (by simp -implicitDefEqProofs [hXX, xCells, nc, nc', u0, u1, at0, at1, m2, e1] <;> rfl) ?_
    refine Tri.cond (b := false) (by simp -implicitDefEqProofs [hXX, xCells, nc, nc', u0, u1, at0, at1, m2, e1]) (fun h => by cases h) (fun _ => ?_)
    refine Tri.x ttok rfl (by simp -implicitDefEqProofs [hXX, xCells, nc, nc', u0, u1, at0, at1, m2, e1] <;> rfl) ?_
    refine Tri.cond (b := false) (by simp -implicitDefEqProofs [hXX, xCells, nc, nc', u0, u1, at0, at1, m2, e1]) (fun h => by cases h) (fun _ => ?_)
    refine Tri.seqX ttok rfl (by simp -implicitDefEqProofs [hXX, xCells, nc, nc', u0, u1, at0, at1, m2, e1] <;> rfl) ?_
    refine Tri.cond (b := false) (by simp -implicitDefEqProofs [hXX, xCells, nc, nc', u0, u1, at0, at1, m2, e1]) (fun h => by cases h) (fun _ => ?_)
    refine Tri.seqX ttok rfl (by simp -implicitDefEqProofs [hXX, xCells, nc, nc', u0, u1, at0, at1, m2, e1] <;> rfl) ?_
    refine Tri.cond (b := false) (by simp -implicitDefEqProofs [hXX, xCells, nc, nc', u0, u1, at0, at1, m2, e1]) (fun h => by cases h) (fun _ => ?_)
    refine Tri.seqX ttok rfl (by simp -implicitDefEqProofs [hXX, xCells, nc, nc', u0, u1, at0, at1, m2, e1] <;> rfl) ?_
    refine Tri.cond (b := true) (by simp -implicitDefEqProofs [hXX, xCells, nc, nc', u0, u1, at0, at1, m2, e1]) (fun _ => ?_) (fun h => by cases h)
    refine Tri.seqR ttok rfl ?_
    refine OpsA.runX 1 (by simp -implicitDefEqProofs [hXX, xCells, nc, nc', u0, u1, at0, at1, m2, e1] <;> rfl) ?_
    simp only [List.drop]
    refine OpsA.call (call_withinB (a := q) (n := 4) (by omega) (by omega)) rfl (by simp -implicitDefEqProofs [hXX, xCells, nc, nc', u0, u1, at0, at1, m2, e1] <;> rfl) (by kernel_rfl) (by simp -implicitDefEqProofs) rfl ?_
    rintro x σ' ⟨rfl, rfl⟩
    by_cases hq4 : within q 4 = 0
    · refine OpsA.all (by simp -implicitDefEqProofs [hXX, xCells, nc, nc', u0, u1, at0, at1, m2, e1, hq4] <;> rfl) ?_
      refine Tri.cond (b := true) (by simp -implicitDefEqProofs [hXX, xCells, nc, nc', u0, u1, at0, at1, m2, e1, hq4]) (fun _ => ?_) (fun h => by cases h)
      refine Tri.seqR ttok rfl ?_
      refine OpsA.runX 1 (by simp -implicitDefEqProofs [hXX, xCells, nc, nc', u0, u1, at0, at1, m2, e1, hq4] <;> rfl) ?_
      simp only [List.drop]
      refine OpsA.call (bcrash h hbk) rfl (by simp -implicitDefEqProofs [hXX, xCells, nc, nc', u0, u1, at0, at1, m2, e1, hq4] <;> rfl) (by kernel_rfl) (by simp -implicitDefEqProofs) rfl ?_
      rintro x σ' ⟨rfl, rfl⟩
      refine OpsA.nil ?_
      refine Tri.region ttok rfl ?_
      refine OpsA.runX 1 (by simp -implicitDefEqProofs [hXX, xCells, nc, nc', u0, u1, at0, at1, m2, e1, hq4] <;> rfl) ?_
      simp only [List.drop]
      refine OpsA.call (xcrash h hbk) rfl (by simp -implicitDefEqProofs [hXX, xCells, nc, nc', u0, u1, at0, at1, m2, e1, hq4] <;> rfl) (by kernel_rfl) (by simp -implicitDefEqProofs) rfl ?_
      rintro x_ σ' ⟨rfl, g1, rfl⟩
      refine OpsA.nil ?_
      try simp only [thenQ, blockQ]
      refine Tri.seqX ttok rfl (by simp -implicitDefEqProofs [hXX, xCells, nc, nc', u0, u1, at0, at1, m2, e1, hq4] <;> rfl) ?_
      refine Tri.ret ?_
      refine fnPost.tmp (.inr rfl) rfl rfl (by simp -implicitDefEqProofs <;> rfl) (by exact True.intro) ?_ ⟨by simp -implicitDefEqProofs, crashW w, { x with o := [] }, g1, ?_, h.crash.more⟩
      · simp only [σ_put, σ_with, u0, u1]
        exact both_stays (by omega) fun n hn => by simp -implicitDefEqProofs [upd_ne, show n ≠ c by omega, show n ≠ c + 1 by omega]
      · simp only [σ_put, σ_with, u0, u1, both_cut (show c0 + 7 ≤ c by omega)]
        repeat rw [cutσ_new _ (by omega)]
        rw [hcσ]
    · refine OpsA.all (by simp -implicitDefEqProofs [hXX, xCells, nc, nc', u0, u1, at0, at1, m2, e1, hq4] <;> rfl) ?_
      refine Tri.cond (b := false) (by simp -implicitDefEqProofs [hXX, xCells, nc, nc', u0, u1, at0, at1, m2, e1, hq4]) (fun h => by cases h) (fun _ => ?_)
      refine Tri.skip ?_
      try simp only [thenQ, blockQ]
      refine Tri.seqX ttok rfl (by simp -implicitDefEqProofs [hXX, xCells, nc, nc', u0, u1, at0, at1, m2, e1, hq4] <;> rfl) ?_
      refine Tri.ret ?_
      refine fnPost.tmp (.inr rfl) rfl rfl (by simp -implicitDefEqProofs <;> rfl) (by exact True.intro) ?_ ⟨by simp -implicitDefEqProofs, w, x, g, ?_, h.more⟩
      · simp only [σ_put, σ_with, u0, u1]
        exact both_stays (by omega) fun n hn => by simp -implicitDefEqProofs [upd_ne, show n ≠ c by omega, show n ≠ c + 1 by omega]
      · simp only [σ_put, σ_with, u0, u1, both_cut (show c0 + 7 ≤ c by omega)]
        repeat rw [cutσ_new _ (by omega)]
        rw [hcσ]
end Go.Proofs.Ytilpklkgmibpgaa
