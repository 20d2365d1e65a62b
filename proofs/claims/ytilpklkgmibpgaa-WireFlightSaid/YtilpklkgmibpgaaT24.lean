import Derived.Test.YtilpklkgmibpgaaT23
namespace Go.Proofs.Ytilpklkgmibpgaa
open Go.Ab
set_option maxHeartbeats 400000
set_option linter.unusedVariables false
set_option linter.unusedSimpArgs false
attribute [local simp] tt3 tt4 tt9 tt22 tt24 tt30 tt31 tt36 tt42 tt55 tt57 tt63 tt71 tt72 tt74 tt77 tt81
attribute [local simp] eqA sliceEq rowsA fillR appendA AV.lt mapElem lookupA mapPutA mapDelA mapClearA lenA sliceA indexA nth buildA fillA placesA TI.zv nilEq fieldOfA
attribute [local simp] List.filter_cons

theorem call_find51 {σ : Nat → Option AO} {X O F A : Nat} {x : RW} {g : Gens} (h : IsX σ X O F A x g) {key : Int} : CallA Try.prog 51 [.ptr X 0, .int .i64 key] σ [] fun r σ' => r = .tup [.int .i64 (findK x.o key), .bool (isK x.o key)] ∧ σ' = σ := by
  refine CallA.of ttok Try.func51 rfl (show 2 ≤ 50 by decide) fun c hF => ?_
  have hσ : cutσ c σ = σ := cutσ_self fun n hn => (hF.good.2 n hn : σ n = none)
  have hn := h.n
  have ho := h.o
  have hf := h.f
  have ha := h.a
  have hXc : X < c := (hF.σ X _ h.n).1
  have hOc : O < c := (hF.σ O _ h.o).1
  have hFc : F < c := (hF.σ F _ h.f).1
  have hAc : A < c := (hF.σ A _ h.a).1
  have hol := h.ol
  refine Tri.seqX ttok rfl (by simp -implicitDefEqProofs <;> rfl) ?_
  refine Tri.seqX ttok rfl (by simp -implicitDefEqProofs <;> rfl) ?_
  refine Tri.seq ?_
  refine Tri.block ?_
  refine Tri.loopL (α := Nat) (fun x_ => ({ t := tl [(0, .ptr X 0), (1, .int .i64 key), (6, .int .i64 (x_ : Int))], σ := σ, c := c, fr := [], m := 50, ds := [] } : AS)) (fun x_ => x.o.length - x_) (fun x_ => x_ ≤ x.o.length ∧ ∀ j p, j < x_ → x.o[j]? = some p → p.e.key < key) 0 ?_ ⟨Nat.zero_le _, fun j p hj => absurd hj (Nat.not_lt_zero _)⟩ ?_
  · refine Le.gh ⟨?_, ?_, ?_, ?_, ?_, ?_⟩
    · exact LeT.cons (by simp -implicitDefEqProofs) (LeT.cons (by simp -implicitDefEqProofs) (LeT.cons (by simp -implicitDefEqProofs) (LeT.nil)))
    · simp
    · simp
    · simp
    · rfl
    · rfl
  · rintro i ⟨hi, hlt⟩
    by_cases hlen : i < x.o.length
    · obtain ⟨p, hp⟩ : ∃ v, x.o[i]'(hlen) = v := ⟨_, rfl⟩
      have hp' : x.o[i]? = some p := by rw [List.getElem?_eq_getElem (hlen), hp]
      by_cases hk : p.e.key < key
      · refine Tri.seq ?_
        refine Tri.seqR ttok rfl ?_
        refine OpsA.allG (by simp -implicitDefEqProofs [hlen, hp, hp', opnRow, hn, ho, hf, ha, xCells, hk] <;> rfl) ?_
        refine Tri.cond (b := true) (by simp -implicitDefEqProofs [hlen, hp, hp', opnRow, hn, ho, hf, ha, xCells, hk]) (fun _ => ?_) (fun h => by cases h)
        have e7 : IntKind.i64.wrap ((i : Int) + 1) = ((i + 1 : Nat) : Int) := by rw [wrap_id (by omega) (by omega)]; omega
        refine Tri.skip ?_
        refine Tri.block ?_
        refine Tri.x ttok rfl (by simp -implicitDefEqProofs [hlen, hp, hp', opnRow, hn, ho, hf, ha, xCells, hk] <;> rfl) ?_
        try simp only [thenQ, blockQ]
        refine ⟨i + 1, ⟨by omega, fun j q hj hq => ?_⟩, by omega, Le.gh ⟨LeT.cons (by simp -implicitDefEqProofs [e7]) (LeT.cons (by simp -implicitDefEqProofs [e7]) (LeT.cons (by simp -implicitDefEqProofs [e7]) (LeT.nil))), by simp -implicitDefEqProofs, by simp -implicitDefEqProofs, by simp -implicitDefEqProofs, rfl, rfl⟩⟩
        rcases Nat.lt_or_eq_of_le (Nat.lt_succ_iff.1 hj) with hj | rfl
        · exact hlt j q hj hq
        · rw [hp'] at hq; cases hq; exact hk
      · refine Tri.seq ?_
        refine Tri.seqR ttok rfl ?_
        refine OpsA.allG (by simp -implicitDefEqProofs [hlen, hp, hp', opnRow, hn, ho, hf, ha, xCells, hk] <;> rfl) ?_
        refine Tri.cond (b := false) (by simp -implicitDefEqProofs [hlen, hp, hp', opnRow, hn, ho, hf, ha, xCells, hk]) (fun h => by cases h) (fun _ => ?_)
        have hge : ∀ q, x.o[i]? = some q → ¬ q.e.key < key := fun q hq => by rw [hp'] at hq; cases hq; exact hk
        by_cases hkk : p.e.key = key
        · have hfk : findK x.o key = i := findK_eq (by omega) (fun j p hj hp => hlt j p hj hp) hge
          refine Tri.exit ?_
          try simp only [thenQ, blockQ, if_true]
          refine Tri.seqD ttok mix [0, 1, 2, 3, 4, 5, 6, 7, 8, 9, 10, 11, 13, 18, 21, 12, 14, 15, 16, 17, 19, 20, 22] (by kernel_rfl) rfl ?_
          simp only [List.filterMap, List.map, List.getElem?_cons_succ, List.getElem?_cons_zero]
          refine OpsA.allG (by simp -implicitDefEqProofs [hlen, hp, hp', opnRow, hn, ho, hf, ha, xCells, hk, hkk] <;> rfl) ?_
          refine Tri.ret ?_
          refine ⟨_, Gh.refl _, .inr rfl, rfl, [.int .i64 (findK x.o key), .bool (isK x.o key)], ?_, ⟨trivial, trivial, trivial⟩, Stays.refl _ _, rfl, hσ⟩
          show resA tt _ _ [.tmp 4, .tmp 5] = _
          simp [hfk, isK, hp', hkk]
        · have hfk : findK x.o key = i := findK_eq (by omega) (fun j p hj hp => hlt j p hj hp) hge
          refine Tri.exit ?_
          try simp only [thenQ, blockQ, if_true]
          refine Tri.seqD ttok mix [0, 1, 2, 3, 4, 5, 6, 7, 8, 9, 10, 11, 13, 18, 21, 12, 14, 15, 16, 17, 19, 20, 22] (by kernel_rfl) rfl ?_
          simp only [List.filterMap, List.map, List.getElem?_cons_succ, List.getElem?_cons_zero]
          refine OpsA.allG (by simp -implicitDefEqProofs [hlen, hp, hp', opnRow, hn, ho, hf, ha, xCells, hk, hkk] <;> rfl) ?_
          refine Tri.ret ?_
          refine ⟨_, Gh.refl _, .inr rfl, rfl, [.int .i64 (findK x.o key), .bool (isK x.o key)], ?_, ⟨trivial, trivial, trivial⟩, Stays.refl _ _, rfl, hσ⟩
          show resA tt _ _ [.tmp 4, .tmp 5] = _
          simp [hfk, isK, hp', hkk]
    · refine Tri.seq ?_
      refine Tri.seqR ttok rfl ?_
      refine OpsA.allG (by simp -implicitDefEqProofs [hlen, hn, ho, hf, ha, xCells] <;> rfl) ?_
      refine Tri.cond (b := false) (by simp -implicitDefEqProofs [hlen, hn, ho, hf, ha, xCells]) (fun h => by cases h) (fun _ => ?_)
      have hnone : x.o[i]? = none := List.getElem?_eq_none (by omega)
      have hge : ∀ q, x.o[i]? = some q → ¬ q.e.key < key := fun q hq => by rw [hnone] at hq; cases hq
      have hfk : findK x.o key = i := findK_eq (by omega) (fun j p hj hp => hlt j p hj hp) hge
      refine Tri.exit ?_
      try simp only [thenQ, blockQ, if_true]
      refine Tri.seqD ttok mix [0, 1, 2, 3, 4, 5, 6, 7, 8, 9, 10, 11, 13, 18, 21, 12, 14, 15, 16, 17, 19, 20, 22] (by kernel_rfl) rfl ?_
      simp only [List.filterMap, List.map, List.getElem?_cons_succ, List.getElem?_cons_zero]
      refine OpsA.allG (by simp -implicitDefEqProofs [hlen, hn, ho, hf, ha, xCells] <;> rfl) ?_
      refine Tri.ret ?_
      refine ⟨_, Gh.refl _, .inr rfl, rfl, [.int .i64 (findK x.o key), .bool (isK x.o key)], ?_, ⟨trivial, trivial, trivial⟩, Stays.refl _ _, rfl, hσ⟩
      show resA tt _ _ [.tmp 4, .tmp 5] = _
      simp [hfk, isK, hnone]
theorem call_xflight48 {σ : Nat → Option AO} {X O F A : Nat} {x : RW} {g : Gens} (h : IsX σ X O F A x g) : CallA Try.prog 48 [.ptr X 0] σ [] fun r σ' => r = .sl (x.f.map msgRow) ∧ σ' = σ := by
  refine CallA.of ttok Try.func48 rfl (show 1 ≤ 9 by decide) fun c hF => ?_
  refine Tri.fresh ?_
  have hσ : cutσ c σ = σ := cutσ_self fun n hn => (hF.good.2 n hn : σ n = none)
  have hn := h.n
  have ho := h.o
  have hf := h.f
  have ha := h.a
  have hXc : X < c := (hF.σ X _ h.n).1
  have hOc : O < c := (hF.σ O _ h.o).1
  have hFc : F < c := (hF.σ F _ h.f).1
  have hAc : A < c := (hF.σ A _ h.a).1
  have hl := h.fl
  have b1 : x.f.length ≤ maxLen := by simp -implicitDefEqProofs [maxLen]; omega
  have b2 : x.f.length * 40 ≤ 140737488355328 := by omega
  have n1 : X ≠ c := by omega
  have n2 : F ≠ c := by omega
  have hcn : upd σ c none = σ := upd_self σ c (hF.good.2 c (Nat.le_refl _))
  have tk : (x.f.map msgRow).take x.f.length = x.f.map msgRow := List.take_of_length_le (by simp -implicitDefEqProofs)
  refine Tri.seqR ttok rfl ?_
  refine OpsA.all (by simp -implicitDefEqProofs [hn, ho, hf, ha, xCells, n1, n2, b1, b2, tk, ok_msg x.f, srcA] <;> rfl) ?_
  refine Tri.seqR ttok rfl ?_
  refine OpsA.new (c) rfl (by simp -implicitDefEqProofs [hn, ho, hf, ha, xCells, n1, n2, b1, b2, tk, ok_msg x.f, srcA] <;> rfl) (by simp -implicitDefEqProofs) (by simp -implicitDefEqProofs <;> rfl) ?_
  refine OpsA.all (by simp -implicitDefEqProofs [hn, ho, hf, ha, xCells, n1, n2, b1, b2, tk, ok_msg x.f, srcA] <;> rfl) ?_
  refine Tri.ret ?_
  refine fnPost.gh (Gh.freezeT 2 (n := c) (g := 1) (T := 77) (e := 4) (rows := x.f.map msgRow) (len := x.f.length) (by simp -implicitDefEqProofs [tk]) rfl (by simp -implicitDefEqProofs [tk]) rfl (by simp -implicitDefEqProofs)) ?_
  refine fnPost.tmp (.inr rfl) rfl rfl (by simp -implicitDefEqProofs <;> rfl) (by simp -implicitDefEqProofs [tk]; exact lt_msg c _) ?_ ⟨by simp -implicitDefEqProofs [tk], ?_⟩
  · simp [hcn]; exact Stays.refl _ _
  · simp [hcn, hσ]
theorem call_xapplied49 {σ : Nat → Option AO} {X O F A : Nat} {x : RW} {g : Gens} (h : IsX σ X O F A x g) : CallA Try.prog 49 [.ptr X 0] σ [] fun r σ' => r = .sl (x.a.map evRow) ∧ σ' = σ := by
  refine CallA.of ttok Try.func49 rfl (show 1 ≤ 9 by decide) fun c hF => ?_
  refine Tri.fresh ?_
  have hσ : cutσ c σ = σ := cutσ_self fun n hn => (hF.good.2 n hn : σ n = none)
  have hn := h.n
  have ho := h.o
  have hf := h.f
  have ha := h.a
  have hXc : X < c := (hF.σ X _ h.n).1
  have hOc : O < c := (hF.σ O _ h.o).1
  have hFc : F < c := (hF.σ F _ h.f).1
  have hAc : A < c := (hF.σ A _ h.a).1
  have hl := h.al
  have b1 : x.a.length ≤ maxLen := by simp -implicitDefEqProofs [maxLen]; omega
  have b2 : x.a.length * 32 ≤ 140737488355328 := by omega
  have n1 : X ≠ c := by omega
  have n2 : A ≠ c := by omega
  have hcn : upd σ c none = σ := upd_self σ c (hF.good.2 c (Nat.le_refl _))
  have tk : (x.a.map evRow).take x.a.length = x.a.map evRow := List.take_of_length_le (by simp -implicitDefEqProofs)
  refine Tri.seqR ttok rfl ?_
  refine OpsA.all (by simp -implicitDefEqProofs [hn, ho, hf, ha, xCells, n1, n2, b1, b2, tk, ok_ev x.a, srcA] <;> rfl) ?_
  refine Tri.seqR ttok rfl ?_
  refine OpsA.new (c) rfl (by simp -implicitDefEqProofs [hn, ho, hf, ha, xCells, n1, n2, b1, b2, tk, ok_ev x.a, srcA] <;> rfl) (by simp -implicitDefEqProofs) (by simp -implicitDefEqProofs <;> rfl) ?_
  refine OpsA.all (by simp -implicitDefEqProofs [hn, ho, hf, ha, xCells, n1, n2, b1, b2, tk, ok_ev x.a, srcA] <;> rfl) ?_
  refine Tri.ret ?_
  refine fnPost.gh (Gh.freezeT 2 (n := c) (g := 1) (T := 30) (e := 3) (rows := x.a.map evRow) (len := x.a.length) (by simp -implicitDefEqProofs [tk]) rfl (by simp -implicitDefEqProofs [tk]) rfl (by simp -implicitDefEqProofs)) ?_
  refine fnPost.tmp (.inr rfl) rfl rfl (by simp -implicitDefEqProofs <;> rfl) (by simp -implicitDefEqProofs [tk]; exact lt_ev c _) ?_ ⟨by simp -implicitDefEqProofs [tk], ?_⟩
  · simp [hcn]; exact Stays.refl _ _
  · simp [hcn, hσ]



section
variable {σ : Nat → Option AO} {X O F A : Nat} {x : RW} {g : Gens}
theorem setF' (h : IsX σ X O F A x g) {f' : List Msg} {gf : Nat} : upd (upd σ F (some (.arr 77 4 gf (f'.map msgRow)))) X (some (.cells 74 (xCells { x with f := f' } O F A { g with f := gf }))) = putX σ X O F A { x with f := f' } { g with f := gf } := by
  conv => lhs; rw [← h.self]
  exact putX_setF h.four
theorem setO' (h : IsX σ X O F A x g) {o' : List Opn} {go : Nat} : upd (upd σ O (some (.arr 81 5 go (o'.map opnRow)))) X (some (.cells 74 (xCells { x with o := o' } O F A { g with o := go }))) = putX σ X O F A { x with o := o' } { g with o := go } := by
  conv => lhs; rw [← h.self]
  exact putX_setO h.four
theorem setA' (h : IsX σ X O F A x g) {a' : List Ev} {ga : Nat} : upd (upd σ A (some (.arr 30 3 ga (a'.map evRow)))) X (some (.cells 74 (xCells { x with a := a' } O F A { g with a := ga }))) = putX σ X O F A { x with a := a' } { g with a := ga } := by
  conv => lhs; rw [← h.self]
  exact putX_setA h.four
theorem setC' (h : IsX σ X O F A x g) {z : Int} : upd σ X (some (.cells 74 (xCells { x with clock := z } O F A g))) = putX σ X O F A { x with clock := z } g := by
  conv => lhs; rw [← h.self]
  exact putX_setC
end
def twiceX (x : RW) (i : Int) : RW := match (if 0 ≤ i then x.f[i.toNat]? else none) with
  | some m => { x with f := x.f ++ [m] }
  | none => x
def inF (x : RW) (i : Int) : Bool := decide (0 ≤ i ∧ i < x.f.length)
theorem call_xtwice31 {σ : Nat → Option AO} {X O F A : Nat} {x : RW} {g : Gens} (h : IsX σ X O F A x g) {i : Int} (hfl : x.f.length < 900000) : CallA Try.prog 31 [.ptr X 0, .int .i64 i] σ [] fun r σ' => r = .bool (inF x i) ∧ ∃ g', σ' = putX σ X O F A (twiceX x i) g' := by
  refine CallA.of ttok Try.func31 rfl (show 2 ≤ 32 by decide) fun c hF => ?_
  have hσ : cutσ c σ = σ := cutσ_self fun n hn => (hF.good.2 n hn : σ n = none)
  have hn := h.n
  have ho := h.o
  have hf := h.f
  have ha := h.a
  have hXc : X < c := (hF.σ X _ h.n).1
  have hOc : O < c := (hF.σ O _ h.o).1
  have hFc : F < c := (hF.σ F _ h.f).1
  have hAc : A < c := (hF.σ A _ h.a).1
  have four := h.four
  have neXO := four.xo
  have neXF := four.xf
  have neXA := four.xa
  have neOF := four.of
  have neOA := four.oa
  have neFA := four.fa
  have neXO' := four.xo.symm
  have neXF' := four.xf.symm
  have neXA' := four.xa.symm
  have neOF' := four.of.symm
  have neOA' := four.oa.symm
  have neFA' := four.fa.symm
  have fin : ∀ (s σ1 : Nat → Option AO) (nx : RW) (ng : Gens), s = putX σ1 X O F A nx ng → Stays c σ σ1 → cutσ c σ1 = σ → Stays c σ s ∧ cutσ c s = putX σ X O F A nx ng := by
    rintro s σ1 nx ng rfl h1 h2
    exact ⟨Stays.putX hOc hFc hAc h1, by rw [cut_putX hXc hOc hFc hAc, h2]⟩
  rcases (show i < 0 ∨ (¬ i < 0 ∧ (x.f.length : Int) ≤ i) ∨ (¬ i < 0 ∧ ¬ (x.f.length : Int) ≤ i) by omega) with hi | ⟨hi, hi2⟩ | ⟨hi, hi2⟩
  · refine Tri.seqX ttok rfl (by simp -implicitDefEqProofs [hn, ho, hf, ha, xCells, neXO, neXF, neXA, neOF, neOA, neFA, neXO', neXF', neXA', neOF', neOA', neFA', hi] <;> rfl) ?_
    refine Tri.seq ?_
    refine Tri.seqR ttok rfl ?_
    refine OpsA.allG (by simp -implicitDefEqProofs [hn, ho, hf, ha, xCells, neXO, neXF, neXA, neOF, neOA, neFA, neXO', neXF', neXA', neOF', neOA', neFA', hi] <;> rfl) ?_
    refine Tri.cond (b := true) (by simp -implicitDefEqProofs [hn, ho, hf, ha, xCells, neXO, neXF, neXA, neOF, neOA, neFA, neXO', neXF', neXA', neOF', neOA', neFA', hi]) (fun _ => ?_) (fun h => by cases h)
    refine Tri.seqX ttok rfl (by simp -implicitDefEqProofs [hn, ho, hf, ha, xCells, neXO, neXF, neXA, neOF, neOA, neFA, neXO', neXF', neXA', neOF', neOA', neFA', hi] <;> rfl) ?_
    refine Tri.ret ?_
    refine fnPost.tmp (.inr rfl) rfl rfl (by simp -implicitDefEqProofs <;> rfl) (by exact True.intro) (by simp -implicitDefEqProofs; exact Stays.refl _ _) ⟨by simp -implicitDefEqProofs [inF]; omega, g, ?_⟩
    rw [show twiceX x i = x by unfold twiceX; split <;> first | rfl | (rename_i m hm; exfalso; split at hm; (first | omega | (rw [List.getElem?_eq_none (by omega)] at hm; cases hm)); cases hm), h.self]
    simpa using hσ
  · refine Tri.seqX ttok rfl (by simp -implicitDefEqProofs [hn, ho, hf, ha, xCells, neXO, neXF, neXA, neOF, neOA, neFA, neXO', neXF', neXA', neOF', neOA', neFA', hi, hi2] <;> rfl) ?_
    refine Tri.seq ?_
    refine Tri.seqR ttok rfl ?_
    refine OpsA.allG (by simp -implicitDefEqProofs [hn, ho, hf, ha, xCells, neXO, neXF, neXA, neOF, neOA, neFA, neXO', neXF', neXA', neOF', neOA', neFA', hi, hi2] <;> rfl) ?_
    refine Tri.cond (b := true) (by simp -implicitDefEqProofs [hn, ho, hf, ha, xCells, neXO, neXF, neXA, neOF, neOA, neFA, neXO', neXF', neXA', neOF', neOA', neFA', hi, hi2]) (fun _ => ?_) (fun h => by cases h)
    refine Tri.seqX ttok rfl (by simp -implicitDefEqProofs [hn, ho, hf, ha, xCells, neXO, neXF, neXA, neOF, neOA, neFA, neXO', neXF', neXA', neOF', neOA', neFA', hi, hi2] <;> rfl) ?_
    refine Tri.ret ?_
    refine fnPost.tmp (.inr rfl) rfl rfl (by simp -implicitDefEqProofs <;> rfl) (by exact True.intro) (by simp -implicitDefEqProofs; exact Stays.refl _ _) ⟨by simp -implicitDefEqProofs [inF]; omega, g, ?_⟩
    rw [show twiceX x i = x by unfold twiceX; split <;> first | rfl | (rename_i m hm; exfalso; split at hm; (first | omega | (rw [List.getElem?_eq_none (by omega)] at hm; cases hm)); cases hm), h.self]
    simpa using hσ
  · refine Tri.seqX ttok rfl (by simp -implicitDefEqProofs [hn, ho, hf, ha, xCells, neXO, neXF, neXA, neOF, neOA, neFA, neXO', neXF', neXA', neOF', neOA', neFA', hi, hi2] <;> rfl) ?_
    refine Tri.seq ?_
    refine Tri.seqR ttok rfl ?_
    refine OpsA.allG (by simp -implicitDefEqProofs [hn, ho, hf, ha, xCells, neXO, neXF, neXA, neOF, neOA, neFA, neXO', neXF', neXA', neOF', neOA', neFA', hi, hi2] <;> rfl) ?_
    refine Tri.cond (b := false) (by simp -implicitDefEqProofs [hn, ho, hf, ha, xCells, neXO, neXF, neXA, neOF, neOA, neFA, neXO', neXF', neXA', neOF', neOA', neFA', hi, hi2]) (fun h => by cases h) (fun _ => ?_)
    obtain ⟨k, rfl⟩ : ∃ k : Nat, i = k := ⟨i.toNat, by omega⟩
    have hk : k < x.f.length := by omega
    obtain ⟨m, hm⟩ : ∃ v, x.f[k]'(hk) = v := ⟨_, rfl⟩
    have hm' : x.f[k]? = some m := by rw [List.getElem?_eq_getElem (hk), hm]
    have hfl2 := hfl
    have b0 : 1 ≤ maxLen := by simp -implicitDefEqProofs [maxLen]
    have b1 : x.f.length + 1 ≤ maxLen := by simp -implicitDefEqProofs [maxLen]; omega
    have b2 : (x.f.length + 1) * 40 ≤ 140737488355328 := by omega
    refine Tri.skip ?_
    refine Tri.seqD ttok mix [0, 1, 2, 3, 5, 6, 7, 9, 4, 8, 10, 11, 12, 13, 14, 15, 16] (by kernel_rfl) rfl ?_
    simp only [List.filterMap, List.map, List.getElem?_cons_succ, List.getElem?_cons_zero]
    refine OpsA.all (by simp -implicitDefEqProofs [hn, ho, hf, ha, xCells, neXO, neXF, neXA, neOF, neOA, neFA, neXO', neXF', neXA', neOF', neOA', neFA', hi, hi2, hk, hm, hm', msgRow, b0, b1, b2] <;> rfl) ?_
    refine Tri.seqX ttok rfl (by simp -implicitDefEqProofs [hn, ho, hf, ha, xCells, neXO, neXF, neXA, neOF, neOA, neFA, neXO', neXF', neXA', neOF', neOA', neFA', hi, hi2, hk, hm, hm', msgRow, b0, b1, b2] <;> rfl) ?_
    refine Tri.ret ?_
    have hset := setF' h (f' := x.f ++ [m]) (gf := g.f + 1)
    have key := fin _ σ { x with f := x.f ++ [m] } { g with f := g.f + 1 } hset (Stays.refl _ _) hσ
    refine fnPost.tmp (.inr rfl) rfl rfl (by simp -implicitDefEqProofs <;> rfl) (by exact True.intro) ?_ ⟨by simp -implicitDefEqProofs [inF]; omega, { g with f := g.f + 1 }, ?_⟩
    · have := key.1
      simpa [xCells, msgRow] using this
    · have := key.2
      simpa [xCells, msgRow, twiceX, hm'] using this
theorem call_xcrash47 {σ : Nat → Option AO} {X O F A : Nat} {x : RW} {g : Gens} (h : IsX σ X O F A x g) : CallA Try.prog 47 [.ptr X 0] σ [] fun r σ' => r = .tup [] ∧ ∃ g', σ' = putX σ X O F A { x with o := [] } g' := by
  refine CallA.of ttok Try.func47 rfl (show 1 ≤ 5 by decide) fun c hF => ?_
  have hσ : cutσ c σ = σ := cutσ_self fun n hn => (hF.good.2 n hn : σ n = none)
  have hn := h.n
  have ho := h.o
  have hf := h.f
  have ha := h.a
  have hXc : X < c := (hF.σ X _ h.n).1
  have hOc : O < c := (hF.σ O _ h.o).1
  have hFc : F < c := (hF.σ F _ h.f).1
  have hAc : A < c := (hF.σ A _ h.a).1
  have four := h.four
  have neXO := four.xo
  have neXF := four.xf
  have neXA := four.xa
  have neOF := four.of
  have neOA := four.oa
  have neFA := four.fa
  have neXO' := four.xo.symm
  have neXF' := four.xf.symm
  have neXA' := four.xa.symm
  have neOF' := four.of.symm
  have neOA' := four.oa.symm
  have neFA' := four.fa.symm
  have fin : ∀ (s σ1 : Nat → Option AO) (nx : RW) (ng : Gens), s = putX σ1 X O F A nx ng → Stays c σ σ1 → cutσ c σ1 = σ → Stays c σ s ∧ cutσ c s = putX σ X O F A nx ng := by
    rintro s σ1 nx ng rfl h1 h2
    exact ⟨Stays.putX hOc hFc hAc h1, by rw [cut_putX hXc hOc hFc hAc, h2]⟩
  refine Tri.x ttok rfl (by simp -implicitDefEqProofs [hn, ho, hf, ha, xCells, neXO, neXF, neXA, neOF, neOA, neFA, neXO', neXF', neXA', neOF', neOA', neFA'] <;> rfl) ?_
  refine fnPost.gh (Gh.renil O X 1 (T := 81) (e := 5) (g := g.o) (rows := x.o.map opnRow) (T' := 74) (cs := [.sl (x.v.map intRow), .nils, .os F g.f x.f.length, .os A g.a x.a.length, .int .i64 x.clock]) (by simp -implicitDefEqProofs [ho, neXO']) rfl (by simp -implicitDefEqProofs) rfl rfl rfl) ?_
  have key := fin _ σ { x with o := [] } { g with o := g.o + 1 } (setO' h (o' := []) (go := g.o + 1)) (Stays.refl _ _) hσ
  refine fnPost.none (.inl rfl) rfl rfl ?_ ⟨rfl, { g with o := g.o + 1 }, ?_⟩
  · have := key.1
    simp only [σ_put, σ_with]
    rw [upd_comm _ _ _ neXO, upd_idem]
    simpa [xCells] using this
  · have := key.2
    simp only [σ_put, σ_with]
    rw [upd_comm _ _ _ neXO, upd_idem]
    simpa [xCells] using this



def newX (vs : List Int) : RW := ⟨vs, [], [], [], 0⟩
theorem new_chain {σ : Nat → Option AO} {X O F A c : Nat} {y z a0 o0 a1 f0 a2 q a3 : Option AO} (four : Four X O F A) (hX : X ≠ c) (hc : σ c = none) :
    upd (upd (upd (upd (upd (upd (upd (upd (upd (upd σ c y) X z) c none) X a0) O o0) X a1) F f0) X a2) A q) X a3 = upd (upd (upd (upd σ O o0) F f0) A q) X a3 := by
  rw [upd_into (a := c) (b := X) hX.symm, upd_idem, upd_self σ c hc]
  rw [upd_comm _ _ _ four.xo, upd_idem, upd_comm _ _ _ four.xf, upd_idem, upd_comm _ _ _ four.xa, upd_idem]
theorem call_xnew26 {σ : Nat → Option AO} {X O F A : Nat} {vs : List Int} (hvs : vs.length ≤ 1000000) (four : Four X O F A) : CallA Try.prog 26 [.sl (vs.map intRow)] σ [X, O, F, A] fun r σ' => r = .ptr X 0 ∧ ∃ g', σ' = putX σ X O F A (newX vs) g' := by
  refine CallA.of ttok Try.func26 rfl (show 1 ≤ 8 by decide) fun c hF => ?_
  refine Tri.fresh ?_
  have hσ : cutσ c σ = σ := cutσ_self fun n hn => (hF.good.2 n hn : σ n = none)
  have hXc : X < c := hF.fr X (by simp -implicitDefEqProofs [startA])
  have hOc : O < c := hF.fr O (by simp -implicitDefEqProofs [startA])
  have hFc : F < c := hF.fr F (by simp -implicitDefEqProofs [startA])
  have hAc : A < c := hF.fr A (by simp -implicitDefEqProofs [startA])
  have neXO := four.xo
  have neXF := four.xf
  have neXA := four.xa
  have neOF := four.of
  have neOA := four.oa
  have neFA := four.fa
  have neXO' := four.xo.symm
  have neXF' := four.xf.symm
  have neXA' := four.xa.symm
  have neOF' := four.of.symm
  have neOA' := four.oa.symm
  have neFA' := four.fa.symm
  have ncX : ¬ X = c := by omega
  have ncO : ¬ O = c := by omega
  have ncF : ¬ F = c := by omega
  have ncA : ¬ A = c := by omega
  have ncX' : ¬ c = X := by omega
  have b1 : vs.length ≤ maxLen := by simp -implicitDefEqProofs [maxLen]; omega
  have b2 : vs.length * 8 ≤ 140737488355328 := by omega
  have tk : (vs.map intRow).take vs.length = vs.map intRow := List.take_of_length_le (by simp -implicitDefEqProofs)
  have hcn : upd σ c none = σ := upd_self σ c (hF.good.2 c (Nat.le_refl _))
  refine Tri.seqR ttok rfl ?_
  refine OpsA.all (by simp -implicitDefEqProofs [ncX, ncO, ncF, ncA, ncX', b1, b2, ok_int vs, tk] <;> rfl) ?_
  refine Tri.seqR ttok rfl ?_
  refine OpsA.new (c) rfl (by simp -implicitDefEqProofs [ncX, ncO, ncF, ncA, ncX', b1, b2, ok_int vs, tk] <;> rfl) (by simp -implicitDefEqProofs) (by simp -implicitDefEqProofs <;> rfl) ?_
  refine OpsA.all (by simp -implicitDefEqProofs [ncX, ncO, ncF, ncA, ncX', b1, b2, ok_int vs, tk] <;> rfl) ?_
  refine Tri.ret ?_
  refine fnPost.gh (Gh.freezeO X 0 (n := c) (g := 1) (T := 3) (e := 1) (rows := vs.map intRow) (len := vs.length) (T' := 74) (cs := [.os c 1 vs.length, .nils, .nils, .nils, .int .i64 0]) (by simp -implicitDefEqProofs) rfl rfl rfl (by simp -implicitDefEqProofs [ncX, ncX']) rfl (by simp -implicitDefEqProofs)) ?_
  rw [tk]
  refine fnPost.gh (Gh.nilO (n := O) (m := X) (k := 1) (T' := 74) (cs := [.sl (vs.map intRow), .nils, .nils, .nils, .int .i64 0]) 81 5 (by simp -implicitDefEqProofs [neXO', neXF', neXA', neOF', neOA', neFA', ncX, ncO, ncF, ncA, ncX']) (by simp -implicitDefEqProofs) rfl) ?_
  refine fnPost.gh (Gh.nilO (n := F) (m := X) (k := 2) (T' := 74) (cs := [.sl (vs.map intRow), .os O 0 0, .nils, .nils, .int .i64 0]) 77 4 (by simp -implicitDefEqProofs [neXO', neXF', neXA', neOF', neOA', neFA', ncX, ncO, ncF, ncA, ncX']) (by simp -implicitDefEqProofs) rfl) ?_
  refine fnPost.gh (Gh.nilO (n := A) (m := X) (k := 3) (T' := 74) (cs := [.sl (vs.map intRow), .os O 0 0, .os F 0 0, .nils, .int .i64 0]) 30 3 (by simp -implicitDefEqProofs [neXO', neXF', neXA', neOF', neOA', neFA', ncX, ncO, ncF, ncA, ncX']) (by simp -implicitDefEqProofs) rfl) ?_
  have key : ∀ s : Nat → Option AO, s = putX σ X O F A (newX vs) ⟨0, 0, 0⟩ → Stays c σ s ∧ cutσ c s = putX σ X O F A (newX vs) ⟨0, 0, 0⟩ := by
    rintro s rfl
    exact ⟨Stays.putX hOc hFc hAc (Stays.refl _ _), by rw [cut_putX hXc hOc hFc hAc, hσ]⟩
  refine fnPost.tmp (.inr rfl) rfl (by rfl) (by simp -implicitDefEqProofs <;> rfl) (by exact hXc) ?_ ⟨rfl, ⟨0, 0, 0⟩, ?_⟩
  · simp only [σ_put, σ_with, List.set_cons_succ, List.set_cons_zero]
    exact (key _ (new_chain four ncX (hF.good.2 c (Nat.le_refl _)))).1
  · simp only [σ_put, σ_with, List.set_cons_succ, List.set_cons_zero]
    exact (key _ (new_chain four ncX (hF.good.2 c (Nat.le_refl _)))).2
theorem call_xopen33 {σ : Nat → Option AO} {X O F A : Nat} {x : RW} {g : Gens} (h : IsX σ X O F A x g) : CallA Try.prog 33 [.ptr X 0] σ [] fun r σ' => r = .sl (x.o.map fun p => intRow p.e.key) ∧ σ' = σ := by
  refine CallA.of ttok Try.func33 rfl (show 1 ≤ 27 by decide) fun c hF => ?_
  refine Tri.fresh ?_
  have hσ : cutσ c σ = σ := cutσ_self fun n hn => (hF.good.2 n hn : σ n = none)
  have hn := h.n
  have ho := h.o
  have hf := h.f
  have ha := h.a
  have hXc : X < c := (hF.σ X _ h.n).1
  have hOc : O < c := (hF.σ O _ h.o).1
  have hFc : F < c := (hF.σ F _ h.f).1
  have hAc : A < c := (hF.σ A _ h.a).1
  have hol := h.ol
  have n1 : X ≠ c := by omega
  have n2 : O ≠ c := by omega
  have hcn : upd σ c none = σ := upd_self σ c (hF.good.2 c (Nat.le_refl _))
  refine Tri.seqX ttok rfl (by simp -implicitDefEqProofs <;> rfl) ?_
  refine Tri.seqX ttok rfl (by simp -implicitDefEqProofs <;> rfl) ?_
  refine Tri.seq ?_
  refine Tri.seqX ttok rfl (by simp -implicitDefEqProofs <;> rfl) ?_
  refine Tri.nilName (n := c) (i := 3) 3 1 (by simp -implicitDefEqProofs) (by simp -implicitDefEqProofs) ?_
  refine Tri.block ?_
  refine Tri.loopL (α := Nat) (fun x_ => ({ t := tl [(0, .ptr X 0), (3, .os c x_ x_), (4, .int .i64 (x_ : Int))], σ := upd σ c (some (.arr 3 1 x_ ((x.o.take x_).map fun p => intRow p.e.key))), c := c + 1, fr := [], m := 27, ds := [] } : AS)) (fun x_ => x.o.length - x_) (fun x_ => x_ ≤ x.o.length) 0 ?_ (Nat.zero_le _) ?_
  · refine Le.gh ⟨?_, ?_, ?_, ?_, ?_, ?_⟩
    · exact LeT.cons (by simp -implicitDefEqProofs) (LeT.cons (by simp -implicitDefEqProofs) (LeT.cons (by simp -implicitDefEqProofs) (LeT.nil)))
    · simp
    · simp
    · simp
    · rfl
    · rfl
  · intro i hi
    by_cases hlen : i < x.o.length
    · obtain ⟨p, hp⟩ : ∃ v, x.o[i]'(hlen) = v := ⟨_, rfl⟩
      have hp' : x.o[i]? = some p := by rw [List.getElem?_eq_getElem (hlen), hp]
      have e7 : IntKind.i64.wrap ((i : Int) + 1) = ((i + 1 : Nat) : Int) := by rw [wrap_id (by omega) (by omega)]; omega
      have b0 : 1 ≤ maxLen := by simp -implicitDefEqProofs [maxLen]
      have b1 : i + 1 ≤ maxLen := by simp -implicitDefEqProofs [maxLen]; omega
      have b2 : (i + 1) * 8 ≤ 140737488355328 := by omega
      have hmin : min i x.o.length = i := by omega
      have tk1 : (x.o.take (i + 1)).map (fun p => intRow p.e.key) = (x.o.take i).map (fun p => intRow p.e.key) ++ [[.int .i64 p.e.key]] := by rw [List.take_add_one, hp']; simp [intRow]
      refine Tri.seq ?_
      refine Tri.seqX ttok rfl (by simp -implicitDefEqProofs [hlen, hp, hp', opnRow, n1, n2, b0, b1, b2, hmin, hn, ho, hf, ha, xCells] <;> rfl) ?_
      refine Tri.cond (b := true) (by simp -implicitDefEqProofs [hlen, hp, hp', opnRow, n1, n2, b0, b1, b2, hmin, hn, ho, hf, ha, xCells]) (fun _ => ?_) (fun h => by cases h)
      refine Tri.skip ?_
      refine Tri.seq ?_
      refine Tri.block ?_
      refine Tri.x ttok rfl (by simp -implicitDefEqProofs [hlen, hp, hp', opnRow, n1, n2, b0, b1, b2, hmin, hn, ho, hf, ha, xCells] <;> rfl) ?_
      try simp only [thenQ, blockQ]
      refine Tri.x ttok rfl (by simp -implicitDefEqProofs [hlen, hp, hp', opnRow, n1, n2, b0, b1, b2, hmin, hn, ho, hf, ha, xCells] <;> rfl) ?_
      exact ⟨i + 1, by omega, by omega, Le.gh ⟨LeT.cons (by simp -implicitDefEqProofs [e7]) (LeT.cons (by simp -implicitDefEqProofs [e7]) (LeT.cons (by simp -implicitDefEqProofs [e7]) (LeT.nil))), by simp -implicitDefEqProofs [tk1], by simp -implicitDefEqProofs, by simp -implicitDefEqProofs, rfl, rfl⟩⟩
    · obtain rfl : i = x.o.length := by omega
      refine Tri.seq ?_
      refine Tri.seqX ttok rfl (by simp -implicitDefEqProofs [hlen, n1, n2, hn, ho, hf, ha, xCells] <;> rfl) ?_
      refine Tri.cond (b := false) (by simp -implicitDefEqProofs [hlen, n1, n2, hn, ho, hf, ha, xCells]) (fun h => by cases h) (fun _ => ?_)
      refine Tri.exit ?_
      try simp only [thenQ, blockQ, if_true]
      refine Tri.seqX ttok rfl (by simp -implicitDefEqProofs [hlen, n1, n2, hn, ho, hf, ha, xCells] <;> rfl) ?_
      refine Tri.ret ?_
      refine fnPost.gh (Gh.freezeT 2 (n := c) (g := x.o.length) (T := 3) (e := 1) (rows := x.o.map fun p => intRow p.e.key) (len := x.o.length) (by simp -implicitDefEqProofs) rfl (by simp -implicitDefEqProofs) rfl (by simp -implicitDefEqProofs)) ?_
      have tk : (x.o.map fun p => intRow p.e.key).take x.o.length = x.o.map fun p => intRow p.e.key := List.take_of_length_le (by simp -implicitDefEqProofs)
      have hlt : rowsLt c (x.o.map fun p => intRow p.e.key) := lt_map c (fun p : Opn => intRow p.e.key) (fun a => ⟨trivial, trivial⟩) x.o
      refine fnPost.tmp (.inr rfl) rfl rfl (by simp -implicitDefEqProofs <;> rfl) (by rw [tk]; exact hlt) ?_ ⟨by rw [tk], ?_⟩
      · simp [hcn]; exact Stays.refl _ _
      · simp [hcn, hσ]



def dropX (x : RW) (i : Int) : RW := if 0 ≤ i ∧ i < x.f.length then { x with f := x.f.eraseIdx i.toNat } else x
theorem ren_chain {σ : Nat → Option AO} {X n c : Nat} {y z a b : Option AO} (hX : c ≠ X) (hXn : X ≠ n) (hc : σ c = none) : upd (upd (upd (upd (upd σ c y) X z) c none) n a) X b = upd (upd σ n a) X b := by
  rw [upd_into hX, upd_self σ c hc, upd_comm _ _ _ hXn, upd_idem]
theorem eraseIdx_eq {α : Type} (l : List α) (k : Nat) : l.take k ++ l.drop (k + 1) = l.eraseIdx k := (List.eraseIdx_eq_take_drop_succ l k).symm
theorem call_xdrop30 {σ : Nat → Option AO} {X O F A : Nat} {x : RW} {g : Gens} (h : IsX σ X O F A x g) {i : Int} : CallA Try.prog 30 [.ptr X 0, .int .i64 i] σ [] fun r σ' => r = .bool (inF x i) ∧ ∃ g', σ' = putX σ X O F A (dropX x i) g' := by
  refine CallA.of ttok Try.func30 rfl (show 2 ≤ 35 by decide) fun c hF => ?_
  have hσ : cutσ c σ = σ := cutσ_self fun n hn => (hF.good.2 n hn : σ n = none)
  have hn := h.n
  have ho := h.o
  have hf := h.f
  have ha := h.a
  have hXc : X < c := (hF.σ X _ h.n).1
  have hOc : O < c := (hF.σ O _ h.o).1
  have hFc : F < c := (hF.σ F _ h.f).1
  have hAc : A < c := (hF.σ A _ h.a).1
  have four := h.four
  have neXO := four.xo
  have neXF := four.xf
  have neXA := four.xa
  have neOF := four.of
  have neOA := four.oa
  have neFA := four.fa
  have neXO' := four.xo.symm
  have neXF' := four.xf.symm
  have neXA' := four.xa.symm
  have neOF' := four.of.symm
  have neOA' := four.oa.symm
  have neFA' := four.fa.symm
  have fin : ∀ (s σ1 : Nat → Option AO) (nx : RW) (ng : Gens), s = putX σ1 X O F A nx ng → Stays c σ σ1 → cutσ c σ1 = σ → Stays c σ s ∧ cutσ c s = putX σ X O F A nx ng := by
    rintro s σ1 nx ng rfl h1 h2
    exact ⟨Stays.putX hOc hFc hAc h1, by rw [cut_putX hXc hOc hFc hAc, h2]⟩
  rcases (show i < 0 ∨ (¬ i < 0 ∧ (x.f.length : Int) ≤ i) ∨ (¬ i < 0 ∧ ¬ (x.f.length : Int) ≤ i) by omega) with hi | ⟨hi, hi2⟩ | ⟨hi, hi2⟩
  · refine Tri.seqX ttok rfl (by simp -implicitDefEqProofs [hn, ho, hf, ha, xCells, neXO, neXF, neXA, neOF, neOA, neFA, neXO', neXF', neXA', neOF', neOA', neFA', hi] <;> rfl) ?_
    refine Tri.seq ?_
    refine Tri.seqR ttok rfl ?_
    refine OpsA.allG (by simp -implicitDefEqProofs [hn, ho, hf, ha, xCells, neXO, neXF, neXA, neOF, neOA, neFA, neXO', neXF', neXA', neOF', neOA', neFA', hi] <;> rfl) ?_
    refine Tri.cond (b := true) (by simp -implicitDefEqProofs [hn, ho, hf, ha, xCells, neXO, neXF, neXA, neOF, neOA, neFA, neXO', neXF', neXA', neOF', neOA', neFA', hi]) (fun _ => ?_) (fun h => by cases h)
    refine Tri.seqX ttok rfl (by simp -implicitDefEqProofs [hn, ho, hf, ha, xCells, neXO, neXF, neXA, neOF, neOA, neFA, neXO', neXF', neXA', neOF', neOA', neFA', hi] <;> rfl) ?_
    refine Tri.ret ?_
    refine fnPost.tmp (.inr rfl) rfl rfl (by simp -implicitDefEqProofs <;> rfl) (by exact True.intro) (by simp -implicitDefEqProofs; exact Stays.refl _ _) ⟨by simp -implicitDefEqProofs [inF]; omega, g, ?_⟩
    rw [show dropX x i = x from if_neg (by omega), h.self]
    simpa using hσ
  · refine Tri.seqX ttok rfl (by simp -implicitDefEqProofs [hn, ho, hf, ha, xCells, neXO, neXF, neXA, neOF, neOA, neFA, neXO', neXF', neXA', neOF', neOA', neFA', hi, hi2] <;> rfl) ?_
    refine Tri.seq ?_
    refine Tri.seqR ttok rfl ?_
    refine OpsA.allG (by simp -implicitDefEqProofs [hn, ho, hf, ha, xCells, neXO, neXF, neXA, neOF, neOA, neFA, neXO', neXF', neXA', neOF', neOA', neFA', hi, hi2] <;> rfl) ?_
    refine Tri.cond (b := true) (by simp -implicitDefEqProofs [hn, ho, hf, ha, xCells, neXO, neXF, neXA, neOF, neOA, neFA, neXO', neXF', neXA', neOF', neOA', neFA', hi, hi2]) (fun _ => ?_) (fun h => by cases h)
    refine Tri.seqX ttok rfl (by simp -implicitDefEqProofs [hn, ho, hf, ha, xCells, neXO, neXF, neXA, neOF, neOA, neFA, neXO', neXF', neXA', neOF', neOA', neFA', hi, hi2] <;> rfl) ?_
    refine Tri.ret ?_
    refine fnPost.tmp (.inr rfl) rfl rfl (by simp -implicitDefEqProofs <;> rfl) (by exact True.intro) (by simp -implicitDefEqProofs; exact Stays.refl _ _) ⟨by simp -implicitDefEqProofs [inF]; omega, g, ?_⟩
    rw [show dropX x i = x from if_neg (by omega), h.self]
    simpa using hσ
  · refine Tri.seqX ttok rfl (by simp -implicitDefEqProofs [hn, ho, hf, ha, xCells, neXO, neXF, neXA, neOF, neOA, neFA, neXO', neXF', neXA', neOF', neOA', neFA', hi, hi2] <;> rfl) ?_
    refine Tri.seq ?_
    refine Tri.seqR ttok rfl ?_
    refine OpsA.allG (by simp -implicitDefEqProofs [hn, ho, hf, ha, xCells, neXO, neXF, neXA, neOF, neOA, neFA, neXO', neXF', neXA', neOF', neOA', neFA', hi, hi2] <;> rfl) ?_
    refine Tri.cond (b := false) (by simp -implicitDefEqProofs [hn, ho, hf, ha, xCells, neXO, neXF, neXA, neOF, neOA, neFA, neXO', neXF', neXA', neOF', neOA', neFA', hi, hi2]) (fun h => by cases h) (fun _ => ?_)
    obtain ⟨k, rfl⟩ : ∃ k : Nat, i = k := ⟨i.toNat, by omega⟩
    have hk : k < x.f.length := by omega
    have hfl := h.fl
    have nX : X ≠ c := by omega
    have nX' : c ≠ X := by omega
    have nF : F ≠ c := by omega
    have nF' : c ≠ F := by omega
    have b0 : k ≤ maxLen := by simp -implicitDefEqProofs [maxLen]; omega
    have b1 : k * 40 ≤ 140737488355328 := by omega
    have hmin : min k x.f.length = k := by omega
    have hkl : k ≤ x.f.length := by omega
    have e1 : IntKind.i64.wrap ((k : Int) + 1) = (k : Int) + 1 := wrap_id (by omega) (by omega)
    have hkl2 : k + 1 ≤ x.f.length := by omega
    have b2 : k + (x.f.length - (k + 1)) ≤ maxLen := by simp -implicitDefEqProofs [maxLen]; omega
    have b3 : (k + (x.f.length - (k + 1))) * 40 ≤ 140737488355328 := by omega
    have hz : (0 : Int) ≤ (k : Int) + 1 := by omega
    have hz2 : ((k : Int) + 1).toNat = k + 1 := by omega
    have hsum : k + 1 + (x.f.length - (k + 1)) = x.f.length := by omega
    have hsrc : ((x.f.map msgRow).drop (k + 1)).take (x.f.length - (k + 1)) = (x.f.map msgRow).drop (k + 1) := List.take_of_length_le (by simp -implicitDefEqProofs)
    have hrw : (x.f.map msgRow).take k ++ (x.f.map msgRow).drop (k + 1) = (x.f.eraseIdx k).map msgRow := by rw [← List.map_take, ← List.map_drop, ← List.map_append, eraseIdx_eq]
    have hlen : k + (x.f.length - (k + 1)) = (x.f.eraseIdx k).length := by rw [List.length_eraseIdx, if_pos hk]; omega
    have hcn : σ c = none := hF.good.2 c (Nat.le_refl _)
    refine Tri.fresh ?_
    refine Tri.skip ?_
    refine Tri.seq (Tri.drawW ttok mix rfl ?_)
    refine AnyW.take 0 rfl (by kernel_rfl) (by kernel_rfl) rfl (by simp -implicitDefEqProofs [hn, ho, hf, ha, xCells, neXO, neXF, neXA, neOF, neOA, neFA, neXO', neXF', neXA', neOF', neOA', neFA', hi, hi2, hk, hmin, hkl, hkl2, b0, b1, b2, b3, e1, hz, hz2, hsum, hsrc, nX, nX', nF, nF', ok_msg x.f, sliceO, boundA, srcA] <;> rfl) ?_
    refine AnyW.take 2 rfl (by kernel_rfl) (by kernel_rfl) rfl (by simp -implicitDefEqProofs [hn, ho, hf, ha, xCells, neXO, neXF, neXA, neOF, neOA, neFA, neXO', neXF', neXA', neOF', neOA', neFA', hi, hi2, hk, hmin, hkl, hkl2, b0, b1, b2, b3, e1, hz, hz2, hsum, hsrc, nX, nX', nF, nF', ok_msg x.f, sliceO, boundA, srcA] <;> rfl) ?_
    refine AnyW.take 3 rfl (by kernel_rfl) (by kernel_rfl) rfl (by simp -implicitDefEqProofs [hn, ho, hf, ha, xCells, neXO, neXF, neXA, neOF, neOA, neFA, neXO', neXF', neXA', neOF', neOA', neFA', hi, hi2, hk, hmin, hkl, hkl2, b0, b1, b2, b3, e1, hz, hz2, hsum, hsrc, nX, nX', nF, nF', ok_msg x.f, sliceO, boundA, srcA] <;> rfl) ?_
    refine AnyW.take 4 rfl (by kernel_rfl) (by kernel_rfl) rfl (by simp -implicitDefEqProofs [hn, ho, hf, ha, xCells, neXO, neXF, neXA, neOF, neOA, neFA, neXO', neXF', neXA', neOF', neOA', neFA', hi, hi2, hk, hmin, hkl, hkl2, b0, b1, b2, b3, e1, hz, hz2, hsum, hsrc, nX, nX', nF, nF', ok_msg x.f, sliceO, boundA, srcA] <;> rfl) ?_
    refine AnyW.take 6 rfl (by kernel_rfl) (by kernel_rfl) rfl (by simp -implicitDefEqProofs [hn, ho, hf, ha, xCells, neXO, neXF, neXA, neOF, neOA, neFA, neXO', neXF', neXA', neOF', neOA', neFA', hi, hi2, hk, hmin, hkl, hkl2, b0, b1, b2, b3, e1, hz, hz2, hsum, hsrc, nX, nX', nF, nF', ok_msg x.f, sliceO, boundA, srcA] <;> rfl) ?_
    refine AnyW.take 9 rfl (by kernel_rfl) (by kernel_rfl) rfl (by simp -implicitDefEqProofs [hn, ho, hf, ha, xCells, neXO, neXF, neXA, neOF, neOA, neFA, neXO', neXF', neXA', neOF', neOA', neFA', hi, hi2, hk, hmin, hkl, hkl2, b0, b1, b2, b3, e1, hz, hz2, hsum, hsrc, nX, nX', nF, nF', ok_msg x.f, sliceO, boundA, srcA] <;> rfl) ?_
    refine AnyW.take 10 rfl (by kernel_rfl) (by kernel_rfl) rfl (by simp -implicitDefEqProofs [hn, ho, hf, ha, xCells, neXO, neXF, neXA, neOF, neOA, neFA, neXO', neXF', neXA', neOF', neOA', neFA', hi, hi2, hk, hmin, hkl, hkl2, b0, b1, b2, b3, e1, hz, hz2, hsum, hsrc, nX, nX', nF, nF', ok_msg x.f, sliceO, boundA, srcA] <;> rfl) ?_
    refine AnyW.take 11 rfl (by kernel_rfl) (by kernel_rfl) rfl (by simp -implicitDefEqProofs [hn, ho, hf, ha, xCells, neXO, neXF, neXA, neOF, neOA, neFA, neXO', neXF', neXA', neOF', neOA', neFA', hi, hi2, hk, hmin, hkl, hkl2, b0, b1, b2, b3, e1, hz, hz2, hsum, hsrc, nX, nX', nF, nF', ok_msg x.f, sliceO, boundA, srcA] <;> rfl) ?_
    refine AnyW.take 13 rfl (by kernel_rfl) (by kernel_rfl) rfl (by simp -implicitDefEqProofs [hn, ho, hf, ha, xCells, neXO, neXF, neXA, neOF, neOA, neFA, neXO', neXF', neXA', neOF', neOA', neFA', hi, hi2, hk, hmin, hkl, hkl2, b0, b1, b2, b3, e1, hz, hz2, hsum, hsrc, nX, nX', nF, nF', ok_msg x.f, sliceO, boundA, srcA] <;> rfl) ?_
    refine AnyW.take 5 rfl (by kernel_rfl) (by kernel_rfl) rfl (by simp -implicitDefEqProofs [hn, ho, hf, ha, xCells, neXO, neXF, neXA, neOF, neOA, neFA, neXO', neXF', neXA', neOF', neOA', neFA', hi, hi2, hk, hmin, hkl, hkl2, b0, b1, b2, b3, e1, hz, hz2, hsum, hsrc, nX, nX', nF, nF', ok_msg x.f, sliceO, boundA, srcA] <;> rfl) ?_
    refine AnyW.take 7 rfl (by kernel_rfl) (by kernel_rfl) rfl (by simp -implicitDefEqProofs [hn, ho, hf, ha, xCells, neXO, neXF, neXA, neOF, neOA, neFA, neXO', neXF', neXA', neOF', neOA', neFA', hi, hi2, hk, hmin, hkl, hkl2, b0, b1, b2, b3, e1, hz, hz2, hsum, hsrc, nX, nX', nF, nF', ok_msg x.f, sliceO, boundA, srcA] <;> rfl) ?_
    refine AnyW.readX 12 rfl (by kernel_rfl) rfl (by simp -implicitDefEqProofs [hn, ho, hf, ha, xCells, neXO, neXF, neXA, neOF, neOA, neFA, neXO', neXF', neXA', neOF', neOA', neFA', hi, hi2, hk, hmin, hkl, hkl2, b0, b1, b2, b3, e1, hz, hz2, hsum, hsrc, nX, nX', nF, nF', ok_msg x.f, sliceO, boundA, srcA] <;> rfl) ?_
    refine AnyW.readX 14 rfl (by kernel_rfl) rfl (by simp -implicitDefEqProofs [hn, ho, hf, ha, xCells, neXO, neXF, neXA, neOF, neOA, neFA, neXO', neXF', neXA', neOF', neOA', neFA', hi, hi2, hk, hmin, hkl, hkl2, b0, b1, b2, b3, e1, hz, hz2, hsum, hsrc, nX, nX', nF, nF', ok_msg x.f, sliceO, boundA, srcA] <;> rfl) ?_
    refine AnyW.readX 15 rfl (by kernel_rfl) rfl (by simp -implicitDefEqProofs [hn, ho, hf, ha, xCells, neXO, neXF, neXA, neOF, neOA, neFA, neXO', neXF', neXA', neOF', neOA', neFA', hi, hi2, hk, hmin, hkl, hkl2, b0, b1, b2, b3, e1, hz, hz2, hsum, hsrc, nX, nX', nF, nF', ok_msg x.f, sliceO, boundA, srcA] <;> rfl) ?_
    refine AnyW.op 1 rfl (by kernel_rfl) [15, 14, 12] (by kernel_rfl) (Wat.cons rfl rfl rfl (by simp -implicitDefEqProofs [hn, ho, hf, ha, xCells, neXO, neXF, neXA, neOF, neOA, neFA, neXO', neXF', neXA', neOF', neOA', neFA', hi, hi2, hk, hmin, hkl, hkl2, b0, b1, b2, b3, e1, hz, hz2, hsum, hsrc, nX, nX', nF, nF', ok_msg x.f, sliceO, boundA, srcA] <;> rfl) (Wat.cons rfl rfl rfl (by simp -implicitDefEqProofs [hn, ho, hf, ha, xCells, neXO, neXF, neXA, neOF, neOA, neFA, neXO', neXF', neXA', neOF', neOA', neFA', hi, hi2, hk, hmin, hkl, hkl2, b0, b1, b2, b3, e1, hz, hz2, hsum, hsrc, nX, nX', nF, nF', ok_msg x.f, sliceO, boundA, srcA] <;> rfl) (Wat.cons rfl rfl rfl (by simp -implicitDefEqProofs [hn, ho, hf, ha, xCells, neXO, neXF, neXA, neOF, neOA, neFA, neXO', neXF', neXA', neOF', neOA', neFA', hi, hi2, hk, hmin, hkl, hkl2, b0, b1, b2, b3, e1, hz, hz2, hsum, hsrc, nX, nX', nF, nF', ok_msg x.f, sliceO, boundA, srcA] <;> rfl) (Wat.nil)))) ?_
    show OpsA _ _ _ [_] _ _
    refine OpsA.new (c) rfl (by simp -implicitDefEqProofs [hn, ho, hf, ha, xCells, neXO, neXF, neXA, neOF, neOA, neFA, neXO', neXF', neXA', neOF', neOA', neFA', hi, hi2, hk, hmin, hkl, hkl2, b0, b1, b2, b3, e1, hz, hz2, hsum, hsrc, nX, nX', nF, nF', ok_msg x.f, sliceO, boundA, srcA] <;> rfl) (by simp -implicitDefEqProofs) (by simp -implicitDefEqProofs <;> rfl) ?_
    refine OpsA.nil ?_
    refine AnyW.op 8 rfl (by kernel_rfl) [15, 14, 12] (by kernel_rfl) (Wat.cons rfl rfl rfl (by simp -implicitDefEqProofs [hn, ho, hf, ha, xCells, neXO, neXF, neXA, neOF, neOA, neFA, neXO', neXF', neXA', neOF', neOA', neFA', hi, hi2, hk, hmin, hkl, hkl2, b0, b1, b2, b3, e1, hz, hz2, hsum, hsrc, nX, nX', nF, nF', ok_msg x.f, sliceO, boundA, srcA] <;> rfl) (Wat.cons rfl rfl rfl (by simp -implicitDefEqProofs [hn, ho, hf, ha, xCells, neXO, neXF, neXA, neOF, neOA, neFA, neXO', neXF', neXA', neOF', neOA', neFA', hi, hi2, hk, hmin, hkl, hkl2, b0, b1, b2, b3, e1, hz, hz2, hsum, hsrc, nX, nX', nF, nF', ok_msg x.f, sliceO, boundA, srcA] <;> rfl) (Wat.cons rfl rfl rfl (by simp -implicitDefEqProofs [hn, ho, hf, ha, xCells, neXO, neXF, neXA, neOF, neOA, neFA, neXO', neXF', neXA', neOF', neOA', neFA', hi, hi2, hk, hmin, hkl, hkl2, b0, b1, b2, b3, e1, hz, hz2, hsum, hsrc, nX, nX', nF, nF', ok_msg x.f, sliceO, boundA, srcA] <;> rfl) (Wat.nil)))) ?_
    show OpsA _ _ _ [_] _ _
    refine OpsA.all (by simp -implicitDefEqProofs [hn, ho, hf, ha, xCells, neXO, neXF, neXA, neOF, neOA, neFA, neXO', neXF', neXA', neOF', neOA', neFA', hi, hi2, hk, hmin, hkl, hkl2, b0, b1, b2, b3, e1, hz, hz2, hsum, hsrc, nX, nX', nF, nF', ok_msg x.f, sliceO, boundA, srcA] <;> rfl) ?_
    refine AnyW.op 16 rfl (by kernel_rfl) [] (by kernel_rfl) (Wat.cons rfl rfl rfl (by simp -implicitDefEqProofs [hn, ho, hf, ha, xCells, neXO, neXF, neXA, neOF, neOA, neFA, neXO', neXF', neXA', neOF', neOA', neFA', hi, hi2, hk, hmin, hkl, hkl2, b0, b1, b2, b3, e1, hz, hz2, hsum, hsrc, nX, nX', nF, nF', ok_msg x.f, sliceO, boundA, srcA] <;> rfl) (Wat.cons rfl rfl rfl (by simp -implicitDefEqProofs [hn, ho, hf, ha, xCells, neXO, neXF, neXA, neOF, neOA, neFA, neXO', neXF', neXA', neOF', neOA', neFA', hi, hi2, hk, hmin, hkl, hkl2, b0, b1, b2, b3, e1, hz, hz2, hsum, hsrc, nX, nX', nF, nF', ok_msg x.f, sliceO, boundA, srcA] <;> rfl) (Wat.cons rfl rfl rfl (by simp -implicitDefEqProofs [hn, ho, hf, ha, xCells, neXO, neXF, neXA, neOF, neOA, neFA, neXO', neXF', neXA', neOF', neOA', neFA', hi, hi2, hk, hmin, hkl, hkl2, b0, b1, b2, b3, e1, hz, hz2, hsum, hsrc, nX, nX', nF, nF', ok_msg x.f, sliceO, boundA, srcA] <;> rfl) (Wat.nil)))) ?_
    show OpsA _ _ _ [_] _ _
    refine OpsA.all (by simp -implicitDefEqProofs [hn, ho, hf, ha, xCells, neXO, neXF, neXA, neOF, neOA, neFA, neXO', neXF', neXA', neOF', neOA', neFA', hi, hi2, hk, hmin, hkl, hkl2, b0, b1, b2, b3, e1, hz, hz2, hsum, hsrc, nX, nX', nF, nF', ok_msg x.f, sliceO, boundA, srcA] <;> rfl) ?_
    refine AnyW.take 17 rfl (by kernel_rfl) (by kernel_rfl) rfl (by simp -implicitDefEqProofs [hn, ho, hf, ha, xCells, neXO, neXF, neXA, neOF, neOA, neFA, neXO', neXF', neXA', neOF', neOA', neFA', hi, hi2, hk, hmin, hkl, hkl2, b0, b1, b2, b3, e1, hz, hz2, hsum, hsrc, nX, nX', nF, nF', ok_msg x.f, sliceO, boundA, srcA] <;> rfl) ?_
    refine AnyW.take 18 rfl (by kernel_rfl) (by kernel_rfl) rfl (by simp -implicitDefEqProofs [hn, ho, hf, ha, xCells, neXO, neXF, neXA, neOF, neOA, neFA, neXO', neXF', neXA', neOF', neOA', neFA', hi, hi2, hk, hmin, hkl, hkl2, b0, b1, b2, b3, e1, hz, hz2, hsum, hsrc, nX, nX', nF, nF', ok_msg x.f, sliceO, boundA, srcA] <;> rfl) ?_
    refine AnyW.op 19 rfl (by kernel_rfl) [] (by kernel_rfl) (Wat.nil) ?_
    show OpsA _ _ _ [_] _ _
    refine OpsA.all (by simp -implicitDefEqProofs [hn, ho, hf, ha, xCells, neXO, neXF, neXA, neOF, neOA, neFA, neXO', neXF', neXA', neOF', neOA', neFA', hi, hi2, hk, hmin, hkl, hkl2, b0, b1, b2, b3, e1, hz, hz2, hsum, hsrc, nX, nX', nF, nF', ok_msg x.f, sliceO, boundA, srcA] <;> rfl) ?_
    refine AnyW.done (P := Try.prog) (by kernel_rfl) (Wat.nil) ?_
    refine Tri.seqX ttok rfl (by simp -implicitDefEqProofs [hn, ho, hf, ha, xCells, neXO, neXF, neXA, neOF, neOA, neFA, neXO', neXF', neXA', neOF', neOA', neFA', hi, hi2, hk, hmin, hkl, hkl2, b0, b1, b2, b3, e1, hz, hz2, hsum, hsrc, nX, nX', nF, nF', ok_msg x.f, sliceO, boundA, srcA] <;> rfl) ?_
    refine Tri.ret ?_
    refine fnPost.gh (Gh.rename F c X 2 (T := 77) (e := 4) (g := g.f) (rows := x.f.map msgRow) (T2 := 77) (e2 := 4) (g2 := 2) (rows2 := (x.f.eraseIdx k).map msgRow) (len := k + (x.f.length - (k + 1))) (T' := 74)
      (cs := [.sl (x.v.map intRow), .os O g.o x.o.length, .os c 2 (k + (x.f.length - (k + 1))), .os A g.a x.a.length, .int .i64 x.clock]) (by simp -implicitDefEqProofs [hf, neXF', nF]) rfl (by simp -implicitDefEqProofs [nX', hrw]) rfl (by simp -implicitDefEqProofs) rfl rfl rfl nF) ?_
    have hset := setF' h (f' := x.f.eraseIdx k) (gf := g.f + 1)
    have key := fin _ σ { x with f := x.f.eraseIdx k } { g with f := g.f + 1 } hset (Stays.refl _ _) hσ
    have hd : dropX x k = { x with f := x.f.eraseIdx k } := by rw [dropX, if_pos (by omega)]; rfl
    refine fnPost.tmp (.inr rfl) rfl rfl (by simp -implicitDefEqProofs <;> rfl) (by exact True.intro) ?_ ⟨by simp -implicitDefEqProofs [inF, hk], { g with f := g.f + 1 }, ?_⟩
    · simp only [σ_put, σ_with, List.set_cons_succ, List.set_cons_zero]
      rw [ren_chain nX' neXF hcn, hlen]
      exact key.1
    · simp only [σ_put, σ_with, List.set_cons_succ, List.set_cons_zero]
      rw [ren_chain nX' neXF hcn, hlen, hd]
      exact key.2
end Go.Proofs.Ytilpklkgmibpgaa
