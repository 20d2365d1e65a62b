import Derived.Test.YtilpklkgmibpgaaT35
namespace Go.Proofs.Ytilpklkgmibpgaa
open Go.Ab
set_option maxHeartbeats 400000
set_option linter.unusedVariables false
set_option linter.unusedSimpArgs false
attribute [local simp] tt3 tt4 tt9 tt22 tt24 tt30 tt31 tt36 tt42 tt55 tt57 tt63 tt71 tt72 tt74 tt77 tt81
attribute [local simp] eqA sliceEq rowsA fillR appendA AV.lt mapElem lookupA mapPutA mapDelA mapClearA lenA sliceA indexA nth buildA fillA placesA TI.zv nilEq fieldOfA
attribute [local simp] List.filter_cons
set_option maxHeartbeats 4000000
set_option maxRecDepth 4000

theorem fr9a (c : Nat) : ([c + 8, c + 7, c + 6, c + 5, c + 4, c + 3, c + 2, c + 1, c].filter fun n => !([c + 2, c + 1, c] : List Nat).contains n) = [c + 8, c + 7, c + 6, c + 5, c + 4, c + 3] := by
  simp [List.filter_cons, show ¬ c + 8 = c by omega, show ¬ c + 7 = c by omega, show ¬ c + 6 = c by omega, show ¬ c + 5 = c by omega, show ¬ c + 4 = c by omega, show ¬ c + 3 = c by omega]
theorem fr9b (c : Nat) : ([c + 8, c + 7, c + 6, c + 5, c + 4, c + 3].filter fun n => !([c + 6, c + 3, c + 4, c + 5] : List Nat).contains n) = [c + 8, c + 7] := by
  simp [List.filter_cons]
def wNew (vs : List Int) : Wire := ⟨vs, 0, [], [], [], 0⟩
theorem Bd.new {vs : List Int} (hv : vs.length ≤ 1000000) : Bd vs 0 (wNew vs) (newX vs) :=
  ⟨⟨rfl, rfl, rfl, rfl, List.Pairwise.nil, List.Perm.refl _, fun q hq => (by cases hq), fun q hq => (by cases hq)⟩, ⟨fun k a hk => (by cases hk), List.Pairwise.nil, fun m hm => (by cases hm)⟩, hv, rfl, Nat.le_refl _, Nat.le_refl _, Nat.le_refl _, Int.le_refl _, Int.le_refl _, fun q hq => (by cases hq), fun q hq => (by cases hq)⟩
theorem call_law9 {vs ns : List Int} {raw : Int} : CallA Try.prog 9 [.sl (vs.map intRow), .sl (ns.map intRow), .int .i64 raw] (fun _ => none) [] fun x _ => x = .bool true := by
  refine CallA.of ttok Try.func9 rfl (show 3 ≤ 87 by decide) fun c hF => ?_
  refine Tri.fresh (Tri.fresh (Tri.fresh (Tri.fresh (Tri.fresh (Tri.fresh (Tri.fresh (Tri.fresh (Tri.fresh ?_))))))))
  refine Tri.seqX ttok rfl (by simp -implicitDefEqProofs <;> rfl) ?_
  refine Tri.seq ?_
  refine Tri.seqR ttok rfl ?_
  refine OpsA.call (lknown) rfl (by simp -implicitDefEqProofs <;> rfl) (by kernel_rfl) (by simp -implicitDefEqProofs) rfl ?_
  rintro x_ σ1 ⟨rfl, rfl⟩
  refine OpsA.all (by simp -implicitDefEqProofs <;> rfl) ?_
  refine Tri.cond (b := false) (by simp -implicitDefEqProofs) (fun h => by cases h) (fun _ => ?_)
  by_cases hv : 60 < vs.length
  · have hv2 : (60 : Int) < vs.length := by omega
    refine Tri.skip ?_
    refine Tri.seq ?_
    refine Tri.seqX ttok rfl (by simp -implicitDefEqProofs [hv, hv2] <;> rfl) ?_
    refine Tri.cond (b := true) (by simp -implicitDefEqProofs [hv, hv2]) (fun _ => ?_) (fun h => by cases h)
    refine Tri.seqX ttok rfl (by simp -implicitDefEqProofs [hv, hv2] <;> rfl) ?_
    refine Tri.ret ?_
    exact fnPost.tmp (.inr rfl) rfl rfl (by simp -implicitDefEqProofs <;> rfl) (by exact True.intro) (Stays.law fun n hn => rfl) rfl
  · have hv2 : ¬ (60 : Int) < vs.length := by omega
    refine Tri.skip ?_
    refine Tri.seq ?_
    refine Tri.seqX ttok rfl (by simp -implicitDefEqProofs [hv, hv2] <;> rfl) ?_
    refine Tri.cond (b := false) (by simp -implicitDefEqProofs [hv, hv2]) (fun h => by cases h) (fun _ => ?_)
    refine Tri.skip ?_
    refine Tri.seqR ttok rfl ?_
    refine OpsA.runX 1 (by simp -implicitDefEqProofs [hv, hv2] <;> rfl) ?_
    simp only [List.drop]
    refine OpsA.call (lnew (c := c) (vs := vs) (by omega)) rfl (by simp -implicitDefEqProofs [hv, hv2] <;> rfl) (by kernel_rfl) (by simp -implicitDefEqProofs) (fr9a c) ?_
    rintro x_ σ1 ⟨rfl, rfl⟩
    refine OpsA.runX 1 (by simp -implicitDefEqProofs [hv, hv2] <;> rfl) ?_
    simp only [List.drop]
    refine OpsA.call (call_xnew26 (X := c + 6) (O := c + 3) (F := c + 4) (A := c + 5) (vs := vs) (by omega) (four6 c)) rfl (by simp -implicitDefEqProofs [hv, hv2] <;> rfl) (by kernel_rfl) (by simp -implicitDefEqProofs) (fr9b c) ?_
    rintro x_ σ1 ⟨rfl, g0, rfl⟩
    refine OpsA.all (by simp -implicitDefEqProofs [hv, hv2] <;> rfl) ?_
    refine Tri.seq ?_
    refine Tri.seqX ttok rfl (by simp -implicitDefEqProofs [hv, hv2] <;> rfl) ?_
    refine Tri.cond (b := false) (by simp -implicitDefEqProofs [hv, hv2]) (fun h => by cases h) (fun _ => ?_)
    refine Tri.skip ?_
    refine Tri.seq ?_
    refine Tri.seqX ttok rfl (by simp -implicitDefEqProofs [hv, hv2] <;> rfl) ?_
    refine Tri.block ?_
    refine Tri.loopL (α := Nat × Wire × RW × Gens) (fun x_ => ({ t := tl [(1, .sl (ns.map intRow)), (2, .int .i64 raw), (7, .ptr (c + 2) 0), (8, .ptr (c + 6) 0), (9, .int .i64 (x_.1 : Int))], σ := both c none0 x_.2.1 x_.2.2.1 x_.2.2.2, c := c + 9, fr := [c + 8, c + 7], m := 87, ds := [] } : AS)) (fun x_ => 70 - x_.1) (fun x_ => x_.1 ≤ 70 ∧ Bd vs x_.1 x_.2.1 x_.2.2.1) (0, wNew vs, newX vs, g0) ?_ ⟨Nat.zero_le _, Bd.new (by omega)⟩ ?_
    · refine Le.gh ⟨?_, ?_, ?_, ?_, ?_, ?_⟩
      · exact LeT.cons (by simp -implicitDefEqProofs) (LeT.cons (by simp -implicitDefEqProofs) (LeT.cons (by simp -implicitDefEqProofs) (LeT.cons (by simp -implicitDefEqProofs) (LeT.cons (by simp -implicitDefEqProofs) (LeT.nil)))))
      · rfl
      · simp
      · simp
      · rfl
      · rfl
    · rintro ⟨i, w, x, g⟩ ⟨hi, h⟩
      replace hi : i ≤ 70 := hi
      replace h : Bd vs i w x := h
      rcases (show (i < ns.length ∧ i < 70) ∨ (i < ns.length ∧ ¬ i < 70) ∨ ¬ i < ns.length by omega) with ⟨hl, hl2⟩ | ⟨hl, hl2⟩ | hl
      · obtain ⟨n0, hn⟩ : ∃ v, ns[i]'(hl) = v := ⟨_, rfl⟩
        have hn' : ns[i]? = some n0 := by rw [List.getElem?_eq_getElem (hl), hn]
        have e7 : IntKind.i64.wrap ((i : Int) + 1) = ((i + 1 : Nat) : Int) := by rw [wrap_id (by omega) (by omega)]; omega
        have hl3 : (i : Int) < 70 := by omega
        refine Tri.seq ?_
        refine Tri.seqR ttok rfl ?_
        refine OpsA.allG (by simp -implicitDefEqProofs [hl, hl2, hl3, hn, hn', intRow] <;> rfl) ?_
        refine Tri.cond (b := true) (by simp -implicitDefEqProofs [hl, hl2, hl3, hn, hn', intRow]) (fun _ => ?_) (fun h => by cases h)
        refine Tri.skip ?_
        refine Tri.seq ?_
        refine Tri.block ?_
        refine Tri.seqR ttok rfl ?_
        refine OpsA.runG 6 (by simp -implicitDefEqProofs [hl, hl2, hl3, hn, hn', intRow] <;> rfl) ?_
        simp only [List.drop]
        refine OpsA.call (call_step27 (c0 := c) (n0 := n0) h (by omega)) rfl (by simp -implicitDefEqProofs [hl, hl2, hl3, hn, hn', intRow] <;> rfl) (by kernel_rfl) (by simp -implicitDefEqProofs) rfl ?_
        rintro x_ σ1 ⟨rfl, w2, x2, g2, rfl, h2⟩
        refine OpsA.runG 4 (by simp -implicitDefEqProofs [hl, hl2, hl3, hn, hn', intRow] <;> rfl) ?_
        simp only [List.drop]
        refine OpsA.guard rfl rfl (by simp -implicitDefEqProofs [hl, hl2, hl3, hn, hn', intRow] <;> rfl) (fun _ => ?_) (fun h => absurd rfl h)
        refine OpsA.call (bsame h2 (by omega)) rfl (by simp -implicitDefEqProofs [hl, hl2, hl3, hn, hn', intRow] <;> rfl) (by kernel_rfl) (by simp -implicitDefEqProofs) rfl ?_
        rintro x σ' ⟨rfl, rfl⟩
        refine OpsA.allG (by simp -implicitDefEqProofs [hl, hl2, hl3, hn, hn', intRow] <;> rfl) ?_
        refine Tri.cond (b := false) (by simp -implicitDefEqProofs [hl, hl2, hl3, hn, hn', intRow]) (fun h => by cases h) (fun _ => ?_)
        refine Tri.skip ?_
        try simp only [thenQ, blockQ]
        refine Tri.x ttok rfl (by simp -implicitDefEqProofs [hl, hl2, hl3, hn, hn', intRow] <;> rfl) ?_
        exact ⟨(i + 1, w2, x2, g2), ⟨by show i + 1 ≤ 70; omega, h2⟩, by show 70 - (i + 1) < 70 - i; omega, Le.gh ⟨LeT.cons (by simp -implicitDefEqProofs [e7]) (LeT.cons (by simp -implicitDefEqProofs [e7]) (LeT.cons (by simp -implicitDefEqProofs [e7]) (LeT.cons (by simp -implicitDefEqProofs [e7]) (LeT.cons (by simp -implicitDefEqProofs [e7]) (LeT.nil))))), by simp -implicitDefEqProofs, by simp -implicitDefEqProofs, by simp -implicitDefEqProofs, rfl, rfl⟩⟩
      · have hl3 : ¬ (i : Int) < 70 := by omega
        refine Tri.seq ?_
        refine Tri.seqR ttok rfl ?_
        refine OpsA.allG (by simp -implicitDefEqProofs [hl, hl2, hl3] <;> rfl) ?_
        refine Tri.cond (b := false) (by simp -implicitDefEqProofs [hl, hl2, hl3]) (fun h => by cases h) (fun _ => ?_)
        have u7 := fun (σ' : Nat → Option AO) (w' : Wire) (x' : RW) (g' : Gens) (y : Option AO) => both_upd (c := c) (σ := σ') (w := w') (x := x') (g := g') (y := y) (show c + 7 ≤ c + 7 by omega)
        have at7 := fun (σ' : Nat → Option AO) (w' : Wire) (x' : RW) (g' : Gens) => both_at (c := c) (σ := σ') (w := w') (x := x') (g := g') (show c + 7 ≤ c + 7 by omega)
        have u8 := fun (σ' : Nat → Option AO) (w' : Wire) (x' : RW) (g' : Gens) (y : Option AO) => both_upd (c := c) (σ := σ') (w := w') (x := x') (g := g') (y := y) (show c + 7 ≤ c + 8 by omega)
        have at8 := fun (σ' : Nat → Option AO) (w' : Wire) (x' : RW) (g' : Gens) => both_at (c := c) (σ := σ') (w := w') (x := x') (g := g') (show c + 7 ≤ c + 8 by omega)
        have h1 := h.deliver raw
        have h2 := h1.drop raw
        have h3 := h2.twice raw
        refine Tri.exit ?_
        try simp only [thenQ, blockQ, if_true]
        refine Tri.seqR ttok rfl ?_
        refine OpsA.runX 2 (by simp -implicitDefEqProofs [u7, u8, at7, at8, evAV] <;> rfl) ?_
        simp only [List.drop]
        refine OpsA.call (bdeliver (i := raw) h (by omega)) rfl (by simp -implicitDefEqProofs [u7, u8, at7, at8, evAV] <;> rfl) (by kernel_rfl) (by simp -implicitDefEqProofs) rfl ?_
        rintro x σ' ⟨rfl, rfl⟩
        generalize he : (deliverW w raw).1.1 = ev
        generalize hb : (deliverW w raw).1.2 = bb
        refine OpsA.runX 3 (by simp -implicitDefEqProofs [u7, u8, at7, at8, evAV] <;> rfl) ?_
        simp only [List.drop]
        refine OpsA.new (c + 7) rfl (by simp -implicitDefEqProofs [u7, u8, at7, at8, evAV] <;> rfl) (by simp -implicitDefEqProofs) (by simp -implicitDefEqProofs <;> rfl) ?_
        refine OpsA.all (by simp -implicitDefEqProofs [u7, u8, at7, at8, evAV] <;> rfl) ?_
        refine Tri.seqR ttok rfl ?_
        refine OpsA.runX 2 (by simp -implicitDefEqProofs [u7, u8, at7, at8, evAV] <;> rfl) ?_
        simp only [List.drop]
        refine OpsA.call (xdeliver (i := raw) h (by omega)) rfl (by simp -implicitDefEqProofs [u7, u8, at7, at8, evAV] <;> rfl) (by kernel_rfl) (by simp -implicitDefEqProofs) rfl ?_
        rintro x_ σ' ⟨rfl, g1, rfl⟩
        rw [he, hb]
        refine OpsA.runX 3 (by simp -implicitDefEqProofs [u7, u8, at7, at8, evAV] <;> rfl) ?_
        simp only [List.drop]
        refine OpsA.new (c + 8) rfl (by simp -implicitDefEqProofs [u7, u8, at7, at8, evAV] <;> rfl) (by simp -implicitDefEqProofs) (by simp -implicitDefEqProofs <;> rfl) ?_
        refine OpsA.all (by simp -implicitDefEqProofs [u7, u8, at7, at8, evAV] <;> rfl) ?_
        refine Tri.seqR ttok rfl ?_
        refine OpsA.runG 6 (by simp -implicitDefEqProofs [u7, u8, at7, at8, evAV] <;> rfl) ?_
        simp only [List.drop]
        refine OpsA.guard rfl rfl (by simp -implicitDefEqProofs [u7, u8, at7, at8, evAV] <;> rfl) (fun _ => ?_) (fun h => absurd rfl h)
        refine OpsA.call (bdrop (i := raw) h1 (by omega)) rfl (by simp -implicitDefEqProofs [u7, u8, at7, at8, evAV] <;> rfl) (by kernel_rfl) (by simp -implicitDefEqProofs) rfl ?_
        rintro x σ' ⟨rfl, rfl⟩
        refine OpsA.runG 2 (by simp -implicitDefEqProofs [u7, u8, at7, at8, evAV] <;> rfl) ?_
        simp only [List.drop]
        refine OpsA.guard rfl rfl (by simp -implicitDefEqProofs [u7, u8, at7, at8, evAV] <;> rfl) (fun _ => ?_) (fun h => absurd rfl h)
        refine OpsA.call (xdrop (i := raw) h1 (by omega)) rfl (by simp -implicitDefEqProofs [u7, u8, at7, at8, evAV] <;> rfl) (by kernel_rfl) (by simp -implicitDefEqProofs) rfl ?_
        rintro x_ σ' ⟨rfl, g2, rfl⟩
        refine OpsA.runG 5 (by simp -implicitDefEqProofs [u7, u8, at7, at8, evAV] <;> rfl) ?_
        simp only [List.drop]
        refine OpsA.guard rfl rfl (by simp -implicitDefEqProofs [u7, u8, at7, at8, evAV] <;> rfl) (fun _ => ?_) (fun h => absurd rfl h)
        refine OpsA.call (btwice (i := raw) h2 (by omega)) rfl (by simp -implicitDefEqProofs [u7, u8, at7, at8, evAV] <;> rfl) (by kernel_rfl) (by simp -implicitDefEqProofs) rfl ?_
        rintro x σ' ⟨rfl, rfl⟩
        refine OpsA.runG 2 (by simp -implicitDefEqProofs [u7, u8, at7, at8, evAV] <;> rfl) ?_
        simp only [List.drop]
        refine OpsA.guard rfl rfl (by simp -implicitDefEqProofs [u7, u8, at7, at8, evAV] <;> rfl) (fun _ => ?_) (fun h => absurd rfl h)
        refine OpsA.call (xtwice (i := raw) h2 (by omega)) rfl (by simp -implicitDefEqProofs [u7, u8, at7, at8, evAV] <;> rfl) (by kernel_rfl) (by simp -implicitDefEqProofs) rfl ?_
        rintro x_ σ' ⟨rfl, g3, rfl⟩
        refine OpsA.runG 5 (by simp -implicitDefEqProofs [u7, u8, at7, at8, evAV] <;> rfl) ?_
        simp only [List.drop]
        refine OpsA.guard rfl rfl (by simp -implicitDefEqProofs [u7, u8, at7, at8, evAV] <;> rfl) (fun _ => ?_) (fun h => absurd rfl h)
        refine OpsA.call (bsame h3 (by omega)) rfl (by simp -implicitDefEqProofs [u7, u8, at7, at8, evAV] <;> rfl) (by kernel_rfl) (by simp -implicitDefEqProofs) rfl ?_
        rintro x σ' ⟨rfl, rfl⟩
        refine OpsA.allG (by simp -implicitDefEqProofs [u7, u8, at7, at8, evAV] <;> rfl) ?_
        refine Tri.ret ?_
        exact fnPost.tmp (.inr rfl) rfl (by rfl) (by simp -implicitDefEqProofs <;> rfl) (by exact True.intro) (Stays.law fun n hn => by simp only [σ_put, σ_with, u7, u8]; rw [both_lt hn]; simp [none0_at, show n ≠ c + 7 by omega, show n ≠ c + 8 by omega]) rfl
      · refine Tri.seq ?_
        refine Tri.seqR ttok rfl ?_
        refine OpsA.allG (by simp -implicitDefEqProofs [hl] <;> rfl) ?_
        refine Tri.cond (b := false) (by simp -implicitDefEqProofs [hl]) (fun h => by cases h) (fun _ => ?_)
        have u7 := fun (σ' : Nat → Option AO) (w' : Wire) (x' : RW) (g' : Gens) (y : Option AO) => both_upd (c := c) (σ := σ') (w := w') (x := x') (g := g') (y := y) (show c + 7 ≤ c + 7 by omega)
        have at7 := fun (σ' : Nat → Option AO) (w' : Wire) (x' : RW) (g' : Gens) => both_at (c := c) (σ := σ') (w := w') (x := x') (g := g') (show c + 7 ≤ c + 7 by omega)
        have u8 := fun (σ' : Nat → Option AO) (w' : Wire) (x' : RW) (g' : Gens) (y : Option AO) => both_upd (c := c) (σ := σ') (w := w') (x := x') (g := g') (y := y) (show c + 7 ≤ c + 8 by omega)
        have at8 := fun (σ' : Nat → Option AO) (w' : Wire) (x' : RW) (g' : Gens) => both_at (c := c) (σ := σ') (w := w') (x := x') (g := g') (show c + 7 ≤ c + 8 by omega)
        have h1 := h.deliver raw
        have h2 := h1.drop raw
        have h3 := h2.twice raw
        refine Tri.exit ?_
        try simp only [thenQ, blockQ, if_true]
        refine Tri.seqR ttok rfl ?_
        refine OpsA.runX 2 (by simp -implicitDefEqProofs [u7, u8, at7, at8, evAV] <;> rfl) ?_
        simp only [List.drop]
        refine OpsA.call (bdeliver (i := raw) h (by omega)) rfl (by simp -implicitDefEqProofs [u7, u8, at7, at8, evAV] <;> rfl) (by kernel_rfl) (by simp -implicitDefEqProofs) rfl ?_
        rintro x σ' ⟨rfl, rfl⟩
        generalize he : (deliverW w raw).1.1 = ev
        generalize hb : (deliverW w raw).1.2 = bb
        refine OpsA.runX 3 (by simp -implicitDefEqProofs [u7, u8, at7, at8, evAV] <;> rfl) ?_
        simp only [List.drop]
        refine OpsA.new (c + 7) rfl (by simp -implicitDefEqProofs [u7, u8, at7, at8, evAV] <;> rfl) (by simp -implicitDefEqProofs) (by simp -implicitDefEqProofs <;> rfl) ?_
        refine OpsA.all (by simp -implicitDefEqProofs [u7, u8, at7, at8, evAV] <;> rfl) ?_
        refine Tri.seqR ttok rfl ?_
        refine OpsA.runX 2 (by simp -implicitDefEqProofs [u7, u8, at7, at8, evAV] <;> rfl) ?_
        simp only [List.drop]
        refine OpsA.call (xdeliver (i := raw) h (by omega)) rfl (by simp -implicitDefEqProofs [u7, u8, at7, at8, evAV] <;> rfl) (by kernel_rfl) (by simp -implicitDefEqProofs) rfl ?_
        rintro x_ σ' ⟨rfl, g1, rfl⟩
        rw [he, hb]
        refine OpsA.runX 3 (by simp -implicitDefEqProofs [u7, u8, at7, at8, evAV] <;> rfl) ?_
        simp only [List.drop]
        refine OpsA.new (c + 8) rfl (by simp -implicitDefEqProofs [u7, u8, at7, at8, evAV] <;> rfl) (by simp -implicitDefEqProofs) (by simp -implicitDefEqProofs <;> rfl) ?_
        refine OpsA.all (by simp -implicitDefEqProofs [u7, u8, at7, at8, evAV] <;> rfl) ?_
        refine Tri.seqR ttok rfl ?_
        refine OpsA.runG 6 (by simp -implicitDefEqProofs [u7, u8, at7, at8, evAV] <;> rfl) ?_
        simp only [List.drop]
        refine OpsA.guard rfl rfl (by simp -implicitDefEqProofs [u7, u8, at7, at8, evAV] <;> rfl) (fun _ => ?_) (fun h => absurd rfl h)
        refine OpsA.call (bdrop (i := raw) h1 (by omega)) rfl (by simp -implicitDefEqProofs [u7, u8, at7, at8, evAV] <;> rfl) (by kernel_rfl) (by simp -implicitDefEqProofs) rfl ?_
        rintro x σ' ⟨rfl, rfl⟩
        refine OpsA.runG 2 (by simp -implicitDefEqProofs [u7, u8, at7, at8, evAV] <;> rfl) ?_
        simp only [List.drop]
        refine OpsA.guard rfl rfl (by simp -implicitDefEqProofs [u7, u8, at7, at8, evAV] <;> rfl) (fun _ => ?_) (fun h => absurd rfl h)
        refine OpsA.call (xdrop (i := raw) h1 (by omega)) rfl (by simp -implicitDefEqProofs [u7, u8, at7, at8, evAV] <;> rfl) (by kernel_rfl) (by simp -implicitDefEqProofs) rfl ?_
        rintro x_ σ' ⟨rfl, g2, rfl⟩
        refine OpsA.runG 5 (by simp -implicitDefEqProofs [u7, u8, at7, at8, evAV] <;> rfl) ?_
        simp only [List.drop]
        refine OpsA.guard rfl rfl (by simp -implicitDefEqProofs [u7, u8, at7, at8, evAV] <;> rfl) (fun _ => ?_) (fun h => absurd rfl h)
        refine OpsA.call (btwice (i := raw) h2 (by omega)) rfl (by simp -implicitDefEqProofs [u7, u8, at7, at8, evAV] <;> rfl) (by kernel_rfl) (by simp -implicitDefEqProofs) rfl ?_
        rintro x σ' ⟨rfl, rfl⟩
        refine OpsA.runG 2 (by simp -implicitDefEqProofs [u7, u8, at7, at8, evAV] <;> rfl) ?_
        simp only [List.drop]
        refine OpsA.guard rfl rfl (by simp -implicitDefEqProofs [u7, u8, at7, at8, evAV] <;> rfl) (fun _ => ?_) (fun h => absurd rfl h)
        refine OpsA.call (xtwice (i := raw) h2 (by omega)) rfl (by simp -implicitDefEqProofs [u7, u8, at7, at8, evAV] <;> rfl) (by kernel_rfl) (by simp -implicitDefEqProofs) rfl ?_
        rintro x_ σ' ⟨rfl, g3, rfl⟩
        refine OpsA.runG 5 (by simp -implicitDefEqProofs [u7, u8, at7, at8, evAV] <;> rfl) ?_
        simp only [List.drop]
        refine OpsA.guard rfl rfl (by simp -implicitDefEqProofs [u7, u8, at7, at8, evAV] <;> rfl) (fun _ => ?_) (fun h => absurd rfl h)
        refine OpsA.call (bsame h3 (by omega)) rfl (by simp -implicitDefEqProofs [u7, u8, at7, at8, evAV] <;> rfl) (by kernel_rfl) (by simp -implicitDefEqProofs) rfl ?_
        rintro x σ' ⟨rfl, rfl⟩
        refine OpsA.allG (by simp -implicitDefEqProofs [u7, u8, at7, at8, evAV] <;> rfl) ?_
        refine Tri.ret ?_
        exact fnPost.tmp (.inr rfl) rfl (by rfl) (by simp -implicitDefEqProofs <;> rfl) (by exact True.intro) (Stays.law fun n hn => by simp only [σ_put, σ_with, u7, u8]; rw [both_lt hn]; simp [none0_at, show n ≠ c + 7 by omega, show n ≠ c + 8 by omega]) rfl
end Go.Proofs.Ytilpklkgmibpgaa
