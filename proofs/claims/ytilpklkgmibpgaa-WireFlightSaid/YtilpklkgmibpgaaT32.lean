import Derived.Test.YtilpklkgmibpgaaT31
namespace Go.Proofs.Ytilpklkgmibpgaa
open Go.Ab
set_option maxHeartbeats 400000
set_option linter.unusedVariables false
set_option linter.unusedSimpArgs false
attribute [local simp] tt3 tt4 tt9 tt22 tt24 tt30 tt31 tt36 tt42 tt55 tt57 tt63 tt71 tt72 tt74 tt77 tt81
attribute [local simp] eqA sliceEq rowsA fillR appendA AV.lt mapElem lookupA mapPutA mapDelA mapClearA lenA sliceA indexA nth buildA fillA placesA TI.zv nilEq fieldOfA
attribute [local simp] List.filter_cons
set_option maxRecDepth 4000
theorem call_ints32 {σ : Nat → Option AO} {a b : List Int} (ha : a.length ≤ 1000000) : CallA Try.prog 32 [.sl (a.map intRow), .sl (b.map intRow)] σ [] fun r σ' => r = .bool (decide (a = b)) ∧ σ' = σ := by
  refine CallA.of ttok Try.func32 rfl (show 2 ≤ 26 by decide) fun c hF => ?_
  have hσ : cutσ c σ = σ := cutσ_self fun n hn => (hF.good.2 n hn : σ n = none)
  refine Tri.seqX ttok rfl (by simp -implicitDefEqProofs <;> rfl) ?_
  by_cases hl : a.length = b.length
  · refine Tri.seq ?_
    refine Tri.seqX ttok rfl (by simp -implicitDefEqProofs [intRow, hl] <;> rfl) ?_
    refine Tri.cond (b := false) (by simp -implicitDefEqProofs [intRow, hl]) (fun h => by cases h) (fun _ => ?_)
    refine Tri.skip ?_
    refine Tri.seq ?_
    refine Tri.seqX ttok rfl (by simp -implicitDefEqProofs [intRow, hl] <;> rfl) ?_
    refine Tri.block ?_
    refine Tri.loopL (α := Nat) (fun x_ => ({ t := tl [(0, .sl (a.map intRow)), (1, .sl (b.map intRow)), (5, .int .i64 (x_ : Int))], σ := σ, c := c, fr := [], m := 26, ds := [] } : AS)) (fun x_ => a.length - x_) (fun x_ => x_ ≤ a.length ∧ ∀ j : Nat, j < x_ → a[j]? = b[j]?) 0 ?_ ⟨Nat.zero_le _, fun j hj => absurd hj (Nat.not_lt_zero _)⟩ ?_
    · refine Le.gh ⟨?_, ?_, ?_, ?_, ?_, ?_⟩
      · exact LeT.cons (by simp -implicitDefEqProofs) (LeT.cons (by simp -implicitDefEqProofs) (LeT.cons (by simp -implicitDefEqProofs) (LeT.nil)))
      · simp
      · simp
      · simp
      · rfl
      · rfl
    · rintro i ⟨hi, he⟩
      by_cases hlen : i < a.length
      · obtain ⟨p, hp⟩ : ∃ v, a[i]'(hlen) = v := ⟨_, rfl⟩
        have hp' : a[i]? = some p := by rw [List.getElem?_eq_getElem (hlen), hp]
        have hlb : i < b.length := by omega
        obtain ⟨q, hq⟩ : ∃ v, b[i]'(hlb) = v := ⟨_, rfl⟩
        have hq' : b[i]? = some q := by rw [List.getElem?_eq_getElem (hlb), hq]
        refine Tri.seq ?_
        refine Tri.seqX ttok rfl (by simp -implicitDefEqProofs [hlen, hlb, hp, hp', hq, hq', intRow] <;> rfl) ?_
        refine Tri.cond (b := true) (by simp -implicitDefEqProofs [hlen, hlb, hp, hp', hq, hq', intRow]) (fun _ => ?_) (fun h => by cases h)
        by_cases hpq : p = q
        · refine Tri.skip ?_
          refine Tri.seq ?_
          refine Tri.block ?_
          refine Tri.seqD ttok mix [0, 1, 4, 5, 2, 3, 6, 7, 8] (by kernel_rfl) rfl ?_
          simp only [List.filterMap, List.map, List.getElem?_cons_succ, List.getElem?_cons_zero]
          refine OpsA.all (by simp -implicitDefEqProofs [hlen, hlb, hp, hp', hq, hq', intRow, hpq] <;> rfl) ?_
          refine Tri.cond (b := false) (by simp -implicitDefEqProofs [hlen, hlb, hp, hp', hq, hq', intRow, hpq]) (fun h => by cases h) (fun _ => ?_)
          have e7 : IntKind.i64.wrap ((i : Int) + 1) = ((i + 1 : Nat) : Int) := by rw [wrap_id (by omega) (by omega)]; omega
          refine Tri.skip ?_
          try simp only [thenQ, blockQ]
          refine Tri.x ttok rfl (by simp -implicitDefEqProofs [hlen, hlb, hp, hp', hq, hq', intRow, hpq] <;> rfl) ?_
          refine ⟨i + 1, ⟨by omega, fun j hj => ?_⟩, by omega, Le.gh ⟨LeT.cons (by simp -implicitDefEqProofs [e7]) (LeT.cons (by simp -implicitDefEqProofs [e7]) (LeT.cons (by simp -implicitDefEqProofs [e7]) (LeT.nil))), by simp -implicitDefEqProofs, by simp -implicitDefEqProofs, by simp -implicitDefEqProofs, rfl, rfl⟩⟩
          rcases Nat.lt_or_eq_of_le (Nat.lt_succ_iff.1 hj) with hj | rfl
          · exact he j hj
          · rw [hp', hq', hpq]
        · refine Tri.skip ?_
          refine Tri.seq ?_
          refine Tri.block ?_
          refine Tri.seqD ttok mix [0, 1, 4, 5, 2, 3, 6, 7, 8] (by kernel_rfl) rfl ?_
          simp only [List.filterMap, List.map, List.getElem?_cons_succ, List.getElem?_cons_zero]
          refine OpsA.all (by simp -implicitDefEqProofs [hlen, hlb, hp, hp', hq, hq', intRow, hpq] <;> rfl) ?_
          refine Tri.cond (b := true) (by simp -implicitDefEqProofs [hlen, hlb, hp, hp', hq, hq', intRow, hpq]) (fun _ => ?_) (fun h => by cases h)
          have hne : a ≠ b := by
            intro e; rw [e, hq'] at hp'; exact hpq (Option.some.inj hp').symm
          refine Tri.seqX ttok rfl (by simp -implicitDefEqProofs [hlen, hlb, hp, hp', hq, hq', intRow, hpq] <;> rfl) ?_
          refine Tri.ret ?_
          exact fnPost.tmp (.inr rfl) rfl rfl (by simp -implicitDefEqProofs <;> rfl) (by exact True.intro) (by simp -implicitDefEqProofs; exact Stays.refl _ _) ⟨by simp -implicitDefEqProofs [hne], by simp -implicitDefEqProofs [hσ]⟩
      · have hlb : ¬ i < b.length := by omega
        have hlc : b.length ≤ i := by omega
        refine Tri.seq ?_
        refine Tri.seqX ttok rfl (by simp -implicitDefEqProofs [intRow, hl, hlen, hlb, hlc] <;> rfl) ?_
        refine Tri.cond (b := false) (by simp -implicitDefEqProofs [intRow, hl, hlen, hlb, hlc]) (fun h => by cases h) (fun _ => ?_)
        have hab : a = b := by
          apply List.ext_getElem?
          intro j
          by_cases hj : j < i
          · exact he j hj
          · rw [List.getElem?_eq_none (by omega), List.getElem?_eq_none (by omega)]
        refine Tri.exit ?_
        try simp only [thenQ, blockQ, if_true]
        refine Tri.seqX ttok rfl (by simp -implicitDefEqProofs [intRow, hl, hlen, hlb, hlc] <;> rfl) ?_
        refine Tri.ret ?_
        exact fnPost.tmp (.inr rfl) rfl rfl (by simp -implicitDefEqProofs <;> rfl) (by exact True.intro) (by simp -implicitDefEqProofs; exact Stays.refl _ _) ⟨by simp -implicitDefEqProofs [hab], by simp -implicitDefEqProofs [hσ]⟩
  · have hl' : ¬ (a.length : Int) = b.length := by omega
    refine Tri.seq ?_
    refine Tri.seqX ttok rfl (by simp -implicitDefEqProofs [intRow, hl, hl'] <;> rfl) ?_
    refine Tri.cond (b := true) (by simp -implicitDefEqProofs [intRow, hl, hl']) (fun _ => ?_) (fun h => by cases h)
    have hne : a ≠ b := by
      intro e; exact hl (by rw [e])
    refine Tri.seqX ttok rfl (by simp -implicitDefEqProofs [intRow, hl, hl'] <;> rfl) ?_
    refine Tri.ret ?_
    exact fnPost.tmp (.inr rfl) rfl rfl (by simp -implicitDefEqProofs <;> rfl) (by exact True.intro) (by simp -implicitDefEqProofs; exact Stays.refl _ _) ⟨by simp -implicitDefEqProofs [hne], by simp -implicitDefEqProofs [hσ]⟩
theorem call_same28 {σ : Nat → Option AO} {N M K X O F A : Nat} {w : Wire} {x : RW} {g : Gens} (hw : IsW σ N M K w) (hk : KeysOk w) (h : IsX σ X O F A x g) (hf : x.f = w.flight) (ha : x.a = w.applied) (hks : sortedKeys w = x.o.map fun p => p.e.key) : CallA Try.prog 28 [.ptr N 0, .ptr X 0] σ [] fun r σ' => r = .bool true ∧ σ' = σ := by
  refine CallA.of ttok Try.func28 rfl (show 2 ≤ 84 by decide) fun c hF => ?_
  have hσ : cutσ c σ = σ := cutσ_self fun n hn => (hF.good.2 n hn : σ n = none)
  refine Tri.seqX ttok rfl (by simp -implicitDefEqProofs <;> rfl) ?_
  refine Tri.seqR ttok rfl ?_
  refine OpsA.runX 1 (by simp -implicitDefEqProofs <;> rfl) ?_
  simp only [List.drop]
  refine OpsA.call (call_flight18 hw) rfl (by simp -implicitDefEqProofs <;> rfl) (by kernel_rfl) (by simp -implicitDefEqProofs) rfl ?_
  rintro x σ1 ⟨rfl, h1⟩
  obtain rfl := h1.symm
  clear h1
  refine OpsA.runX 1 (by simp -implicitDefEqProofs <;> rfl) ?_
  simp only [List.drop]
  refine OpsA.call (call_xflight48 h) rfl (by simp -implicitDefEqProofs <;> rfl) (by kernel_rfl) (by simp -implicitDefEqProofs) rfl ?_
  rintro x σ1 ⟨rfl, h1⟩
  obtain rfl := h1.symm
  clear h1
  rw [hf]
  refine OpsA.all (by simp -implicitDefEqProofs <;> rfl) ?_
  refine Tri.seqR ttok rfl ?_
  refine OpsA.runX 1 (by simp -implicitDefEqProofs <;> rfl) ?_
  simp only [List.drop]
  refine OpsA.call (call_applied20 hw) rfl (by simp -implicitDefEqProofs <;> rfl) (by kernel_rfl) (by simp -implicitDefEqProofs) rfl ?_
  rintro x σ1 ⟨rfl, h1⟩
  obtain rfl := h1.symm
  clear h1
  refine OpsA.runX 1 (by simp -implicitDefEqProofs <;> rfl) ?_
  simp only [List.drop]
  refine OpsA.call (call_xapplied49 h) rfl (by simp -implicitDefEqProofs <;> rfl) (by kernel_rfl) (by simp -implicitDefEqProofs) rfl ?_
  rintro x σ1 ⟨rfl, h1⟩
  obtain rfl := h1.symm
  clear h1
  rw [ha]
  have hfl := hw.fl
  have hal := hw.ap
  refine OpsA.all (by simp -implicitDefEqProofs <;> rfl) ?_
  refine Tri.seq ?_
  refine Tri.seqR ttok rfl ?_
  refine OpsA.runG 14 (by simp -implicitDefEqProofs <;> rfl) ?_
  simp only [List.drop]
  refine OpsA.guard rfl rfl (by simp -implicitDefEqProofs <;> rfl) (fun _ => ?_) (fun h => absurd rfl h)
  refine OpsA.call (call_open16 hw hk) rfl (by simp -implicitDefEqProofs <;> rfl) (by kernel_rfl) (by simp -implicitDefEqProofs) rfl ?_
  rintro x_ σ1 ⟨rfl, h1⟩
  obtain rfl := h1.symm
  clear h1
  refine OpsA.runG 1 (by simp -implicitDefEqProofs <;> rfl) ?_
  simp only [List.drop]
  refine OpsA.guard rfl rfl (by simp -implicitDefEqProofs <;> rfl) (fun _ => ?_) (fun h => absurd rfl h)
  refine OpsA.call (call_xopen33 h) rfl (by simp -implicitDefEqProofs <;> rfl) (by kernel_rfl) (by simp -implicitDefEqProofs) rfl ?_
  rintro x_ σ1 ⟨rfl, h1⟩
  obtain rfl := h1.symm
  clear h1
  rw [show (x.o.map fun p => intRow p.e.key) = (sortedKeys w).map intRow by rw [hks, List.map_map]; rfl]
  generalize hsk : sortedKeys w = sk
  refine OpsA.guard rfl rfl (by simp -implicitDefEqProofs <;> rfl) (fun _ => ?_) (fun h => absurd rfl h)
  refine OpsA.call (call_ints32 (a := sk) (b := sk) (by rw [← hsk, hks]; have := h.ol; simp; omega)) rfl (by simp -implicitDefEqProofs <;> rfl) (by kernel_rfl) (by simp -implicitDefEqProofs) rfl ?_
  rintro x σ1 ⟨rfl, h1⟩
  obtain rfl := h1.symm
  clear h1
  refine OpsA.allG (by simp -implicitDefEqProofs <;> rfl) ?_
  refine Tri.cond (b := false) (by simp -implicitDefEqProofs) (fun h => by cases h) (fun _ => ?_)
  refine Tri.skip ?_
  refine Tri.seq ?_
  refine Tri.seqX ttok rfl (by simp -implicitDefEqProofs <;> rfl) ?_
  refine Tri.block ?_
  refine Tri.loopL (α := Nat) (fun x_ => ({ t := tl [(5, .sl (w.flight.map msgRow)), (6, .sl (w.flight.map msgRow)), (7, .sl (w.applied.map evRow)), (8, .sl (w.applied.map evRow)), (9, .int .i64 (x_ : Int))], σ := σ, c := c, fr := [], m := 84, ds := [] } : AS)) (fun x_ => w.flight.length - x_) (fun x_ => x_ ≤ w.flight.length) 0 ?_ (Nat.zero_le _) ?_
  · refine Le.gh ⟨?_, ?_, ?_, ?_, ?_, ?_⟩
    · exact LeT.cons (by simp -implicitDefEqProofs) (LeT.cons (by simp -implicitDefEqProofs) (LeT.cons (by simp -implicitDefEqProofs) (LeT.cons (by simp -implicitDefEqProofs) (LeT.cons (by simp -implicitDefEqProofs) (LeT.nil)))))
    · simp
    · simp
    · simp
    · rfl
    · rfl
  · intro i hi
    by_cases hlen : i < w.flight.length
    · obtain ⟨p, hp⟩ : ∃ v, w.flight[i]'(hlen) = v := ⟨_, rfl⟩
      have hp' : w.flight[i]? = some p := by rw [List.getElem?_eq_getElem (hlen), hp]
      have e7 : IntKind.i64.wrap ((i : Int) + 1) = ((i + 1 : Nat) : Int) := by rw [wrap_id (by omega) (by omega)]; omega
      refine Tri.seq ?_
      refine Tri.seqX ttok rfl (by simp -implicitDefEqProofs [hlen, hp, hp', msgRow] <;> rfl) ?_
      refine Tri.cond (b := true) (by simp -implicitDefEqProofs [hlen, hp, hp', msgRow]) (fun _ => ?_) (fun h => by cases h)
      refine Tri.skip ?_
      refine Tri.seq ?_
      refine Tri.block ?_
      refine Tri.seqD ttok mix [0, 1, 5, 6, 2, 3, 4, 7, 8, 9, 10, 11, 12, 13, 17, 18, 14, 15, 16, 19, 20, 21, 22, 23] (by kernel_rfl) rfl ?_
      simp only [List.filterMap, List.map, List.getElem?_cons_succ, List.getElem?_cons_zero]
      refine OpsA.allG (by simp -implicitDefEqProofs [hlen, hp, hp', msgRow] <;> rfl) ?_
      refine Tri.cond (b := false) (by simp -implicitDefEqProofs [hlen, hp, hp', msgRow]) (fun h => by cases h) (fun _ => ?_)
      refine Tri.skip ?_
      try simp only [thenQ, blockQ]
      refine Tri.x ttok rfl (by simp -implicitDefEqProofs [hlen, hp, hp', msgRow] <;> rfl) ?_
      exact ⟨i + 1, by omega, by omega, Le.gh ⟨LeT.cons (by simp -implicitDefEqProofs [e7]) (LeT.cons (by simp -implicitDefEqProofs [e7]) (LeT.cons (by simp -implicitDefEqProofs [e7]) (LeT.cons (by simp -implicitDefEqProofs [e7]) (LeT.cons (by simp -implicitDefEqProofs [e7]) (LeT.nil))))), by simp -implicitDefEqProofs, by simp -implicitDefEqProofs, by simp -implicitDefEqProofs, rfl, rfl⟩⟩
    · refine Tri.seq ?_
      refine Tri.seqX ttok rfl (by simp -implicitDefEqProofs [hlen] <;> rfl) ?_
      refine Tri.cond (b := false) (by simp -implicitDefEqProofs [hlen]) (fun h => by cases h) (fun _ => ?_)
      refine Tri.exit ?_
      try simp only [thenQ, blockQ, if_true]
      refine Tri.seq ?_
      refine Tri.seqX ttok rfl (by simp -implicitDefEqProofs [hlen] <;> rfl) ?_
      refine Tri.block ?_
      refine Tri.loopL (α := Nat) (fun x_ => ({ t := tl [(7, .sl (w.applied.map evRow)), (8, .sl (w.applied.map evRow)), (10, .int .i64 (x_ : Int))], σ := σ, c := c, fr := [], m := 84, ds := [] } : AS)) (fun x_ => w.applied.length - x_) (fun x_ => x_ ≤ w.applied.length) 0 ?_ (Nat.zero_le _) ?_
      · refine Le.gh ⟨?_, ?_, ?_, ?_, ?_, ?_⟩
        · exact LeT.cons (by simp -implicitDefEqProofs) (LeT.cons (by simp -implicitDefEqProofs) (LeT.cons (by simp -implicitDefEqProofs) (LeT.nil)))
        · simp
        · simp
        · simp
        · rfl
        · rfl
      · intro i hi
        by_cases hlen : i < w.applied.length
        · obtain ⟨p, hp⟩ : ∃ v, w.applied[i]'(hlen) = v := ⟨_, rfl⟩
          have hp' : w.applied[i]? = some p := by rw [List.getElem?_eq_getElem (hlen), hp]
          have e7 : IntKind.i64.wrap ((i : Int) + 1) = ((i + 1 : Nat) : Int) := by rw [wrap_id (by omega) (by omega)]; omega
          refine Tri.seq ?_
          refine Tri.seqX ttok rfl (by simp -implicitDefEqProofs [hlen, hp, hp', evRow] <;> rfl) ?_
          refine Tri.cond (b := true) (by simp -implicitDefEqProofs [hlen, hp, hp', evRow]) (fun _ => ?_) (fun h => by cases h)
          refine Tri.skip ?_
          refine Tri.seq ?_
          refine Tri.block ?_
          refine Tri.seqD ttok mix [0, 1, 4, 5, 2, 3, 6, 7, 8] (by kernel_rfl) rfl ?_
          simp only [List.filterMap, List.map, List.getElem?_cons_succ, List.getElem?_cons_zero]
          refine OpsA.all (by simp -implicitDefEqProofs [hlen, hp, hp', evRow] <;> rfl) ?_
          refine Tri.cond (b := false) (by simp -implicitDefEqProofs [hlen, hp, hp', evRow]) (fun h => by cases h) (fun _ => ?_)
          refine Tri.skip ?_
          try simp only [thenQ, blockQ]
          refine Tri.x ttok rfl (by simp -implicitDefEqProofs [hlen, hp, hp', evRow] <;> rfl) ?_
          exact ⟨i + 1, by omega, by omega, Le.gh ⟨LeT.cons (by simp -implicitDefEqProofs [e7]) (LeT.cons (by simp -implicitDefEqProofs [e7]) (LeT.cons (by simp -implicitDefEqProofs [e7]) (LeT.nil))), by simp -implicitDefEqProofs, by simp -implicitDefEqProofs, by simp -implicitDefEqProofs, rfl, rfl⟩⟩
        · refine Tri.seq ?_
          refine Tri.seqX ttok rfl (by simp -implicitDefEqProofs [hlen] <;> rfl) ?_
          refine Tri.cond (b := false) (by simp -implicitDefEqProofs [hlen]) (fun h => by cases h) (fun _ => ?_)
          refine Tri.exit ?_
          try simp only [thenQ, blockQ, if_true]
          refine Tri.seqX ttok rfl (by simp -implicitDefEqProofs [hlen] <;> rfl) ?_
          refine Tri.ret ?_
          exact fnPost.tmp (.inr rfl) rfl rfl (by simp -implicitDefEqProofs <;> rfl) (by exact True.intro) (by simp -implicitDefEqProofs; exact Stays.refl _ _) ⟨rfl, by simp -implicitDefEqProofs [hσ]⟩
end Go.Proofs.Ytilpklkgmibpgaa
