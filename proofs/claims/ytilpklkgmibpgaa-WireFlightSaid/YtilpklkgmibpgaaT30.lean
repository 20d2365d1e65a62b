import Derived.Test.YtilpklkgmibpgaaT29
namespace Go.Proofs.Ytilpklkgmibpgaa
open Go.Ab
set_option maxHeartbeats 400000
set_option linter.unusedVariables false
set_option linter.unusedSimpArgs false
attribute [local simp] tt3 tt4 tt9 tt22 tt24 tt30 tt31 tt36 tt42 tt55 tt57 tt63 tt71 tt72 tt74 tt77 tt81
attribute [local simp] eqA sliceEq rowsA fillR appendA AV.lt mapElem lookupA mapPutA mapDelA mapClearA lenA sliceA indexA nth buildA fillA placesA TI.zv nilEq fieldOfA
attribute [local simp] List.filter_cons


theorem putX_inO {σ : Nat → Option AO} {X O F A : Nat} {x : RW} {g : Gens} (h : Four X O F A) {o' : List Opn} (hl : o'.length = x.o.length) : upd (putX σ X O F A x g) O (some (.arr 81 5 g.o (o'.map opnRow))) = putX σ X O F A { x with o := o' } g := by
  rw [show putX σ X O F A { x with o := o' } g = _ from (putX_setO h (x := x) (o' := o') (go := g.o)).symm]
  refine (upd_self _ X ?_).symm
  rw [upd_ne _ _ h.xo, putX_X]
  simp [xCells, hl]
def againX (clk : Int) (p : Opn) : Opn := if p.time = clk then ⟨p.e, clk + min (2 * p.wait) 8, min (2 * p.wait) 8⟩ else p
def dueF (clk : Int) (l : List Opn) : List Msg := (l.filter fun p => decide (p.time = clk)).map fun p => ⟨false, p.e⟩
def partX (x : RW) (i : Nat) : RW := { x with clock := x.clock + 1, o := (x.o.take i).map (againX (x.clock + 1)) ++ x.o.drop i, f := x.f ++ dueF (x.clock + 1) (x.o.take i) }
def tickX (x : RW) : RW := { x with clock := x.clock + 1, o := x.o.map (againX (x.clock + 1)), f := x.f ++ dueF (x.clock + 1) x.o }
theorem partX_zero (x : RW) : partX x 0 = { x with clock := x.clock + 1 } := by simp -implicitDefEqProofs [partX, dueF]
theorem partX_all (x : RW) : partX x x.o.length = tickX x := by simp -implicitDefEqProofs [partX, tickX]
theorem dueF_len (clk : Int) (l : List Opn) : (dueF clk l).length ≤ l.length := by
  simp only [dueF, List.length_map]; exact List.length_filter_le _ _
theorem partX_ol (x : RW) (i : Nat) : (partX x i).o.length = x.o.length := by
  simp [partX]; omega
theorem partX_fl (x : RW) (i : Nat) : (partX x i).f.length ≤ x.f.length + i := by
  have := dueF_len (x.clock + 1) (x.o.take i)
  simp only [List.length_take] at this
  simp only [partX, List.length_append]; omega
theorem partX_get (x : RW) {i : Nat} (h : i < x.o.length) : (partX x i).o[i]? = x.o[i]? := by
  have : (List.map (againX (x.clock + 1)) (x.o.take i)).length = i := by simp -implicitDefEqProofs; omega
  simp only [partX]
  rw [List.getElem?_append_right (by omega), this, Nat.sub_self, List.getElem?_drop]; simp
theorem take_succ' {α : Type} {l : List α} {i : Nat} {p : α} (h : l[i]? = some p) : l.take (i + 1) = l.take i ++ [p] := by rw [List.take_add_one, h]; rfl
theorem drop_cons' {α : Type} {l : List α} {i : Nat} {p : α} (h : l[i]? = some p) : l.drop i = p :: l.drop (i + 1) := by
  obtain ⟨h1, h2⟩ := List.getElem?_eq_some_iff.1 h
  rw [List.drop_eq_getElem_cons h1, h2]
theorem partX_not {x : RW} {i : Nat} {p : Opn} (h : x.o[i]? = some p) (hd : ¬ p.time = x.clock + 1) : partX x (i + 1) = partX x i := by
  simp only [partX, take_succ' h, drop_cons' h, dueF, List.map_append, List.filter_append]
  simp [againX, hd]
theorem partX_due {x : RW} {i : Nat} {p : Opn} (h : x.o[i]? = some p) (hd : p.time = x.clock + 1) :
    partX x (i + 1) = { partX x i with o := (partX x i).o.set i ⟨p.e, x.clock + 1 + min (2 * p.wait) 8, min (2 * p.wait) 8⟩, f := (partX x i).f ++ [⟨false, p.e⟩] } := by
  have hl : i < x.o.length := (List.getElem?_eq_some_iff.1 h).1
  have hlen : (List.map (againX (x.clock + 1)) (x.o.take i)).length = i := by simp -implicitDefEqProofs; omega
  simp only [partX, take_succ' h, dueF, List.map_append, List.filter_append, drop_cons' h]
  rw [List.set_append_right _ _ (by omega), hlen, Nat.sub_self]
  simp [againX, hd]
theorem call_xtick46 {σ : Nat → Option AO} {X O F A : Nat} {x : RW} {g : Gens} (h : IsX σ X O F A x g) (hck1 : x.clock < 1000000) (hfl : x.f.length + x.o.length ≤ 900000) (hw : ∀ p, p ∈ x.o → 0 ≤ p.wait ∧ p.wait ≤ 8) : CallA Try.prog 46 [.ptr X 0] σ [] fun r σ' => r = .tup [] ∧ ∃ g', σ' = putX σ X O F A (tickX x) g' := by
  refine CallA.of ttok Try.func46 rfl (show 1 ≤ 87 by decide) fun c hF => ?_
  have hσ : cutσ c σ = σ := cutσ_self fun n hn => (hF.good.2 n hn : σ n = none)
  have hn := h.n
  have ho := h.o
  have hf := h.f
  have ha := h.a
  have hXc : X < c := (hF.σ X _ h.n).1
  have hOc : O < c := (hF.σ O _ h.o).1
  have hFc : F < c := (hF.σ F _ h.f).1
  have hAc : A < c := (hF.σ A _ h.a).1
  have four := h.four
  have neXO := four.xo
  have neXF := four.xf
  have neXA := four.xa
  have neOF := four.of
  have neOA := four.oa
  have neFA := four.fa
  have neXO' := four.xo.symm
  have neXF' := four.xf.symm
  have neXA' := four.xa.symm
  have neOF' := four.of.symm
  have neOA' := four.oa.symm
  have neFA' := four.fa.symm
  have fin : ∀ (s σ1 : Nat → Option AO) (nx : RW) (ng : Gens), s = putX σ1 X O F A nx ng → Stays c σ σ1 → cutσ c σ1 = σ → Stays c σ s ∧ cutσ c s = putX σ X O F A nx ng := by
    rintro s σ1 nx ng rfl h1 h2
    exact ⟨Stays.putX hOc hFc hAc h1, by rw [cut_putX hXc hOc hFc hAc, h2]⟩
  have hol := h.ol
  have hck := h.ck
  have ek : IntKind.i64.wrap (x.clock + 1) = x.clock + 1 := wrap_id (by omega) (by omega)
  refine Tri.seqX ttok rfl (by simp -implicitDefEqProofs [hn, ho, hf, ha, xCells, ek, neXO, neXF, neXA, neOF, neOA, neFA, neXO', neXF', neXA', neOF', neOA', neFA'] <;> rfl) ?_
  refine Tri.seqX ttok rfl (by simp -implicitDefEqProofs [hn, ho, hf, ha, xCells, ek, neXO, neXF, neXA, neOF, neOA, neFA, neXO', neXF', neXA', neOF', neOA', neFA'] <;> rfl) ?_
  refine Tri.block ?_
  refine Tri.loopL (α := Nat × Gens) (fun x_ => ({ t := tl [(0, .ptr X 0), (2, .int .i64 (x_.1 : Int))], σ := putX σ X O F A (partX x x_.1) x_.2, c := c, fr := [], m := 87, ds := [] } : AS)) (fun x_ => x.o.length - x_.1) (fun x_ => x_.1 ≤ x.o.length) (0, g) ?_ (Nat.zero_le _) ?_
  · refine Le.gh ⟨?_, ?_, ?_, ?_, ?_, ?_⟩
    · exact LeT.cons (by simp -implicitDefEqProofs) (LeT.cons (by simp -implicitDefEqProofs) (LeT.nil))
    · have := setC' h (z := x.clock + 1)
      simpa [partX_zero, xCells] using this.symm
    · simp
    · simp
    · rfl
    · rfl
  · rintro ⟨i, gy⟩ hi
    replace hi : i ≤ x.o.length := hi
    have pXX := fun x' g' => putX_X (σ := σ) (X := X) (O := O) (F := F) (A := A) (x := x') (g := g')
    have pOO := fun x' g' => putX_O (σ := σ) (x := x') (g := g') four
    have pFF := fun x' g' => putX_F (σ := σ) (x := x') (g := g') four
    have yol := partX_ol x i
    have yfl := partX_fl x i
    have yck : (partX x i).clock = x.clock + 1 := rfl
    by_cases hlen : i < x.o.length
    · obtain ⟨p, hp⟩ : ∃ v, x.o[i]'(hlen) = v := ⟨_, rfl⟩
      have hp' : x.o[i]? = some p := by rw [List.getElem?_eq_getElem (hlen), hp]
      have ygt := partX_get x hlen
      rw [hp'] at ygt
      have hyi := (List.getElem?_eq_some_iff.1 ygt).2
      have hyl : i < (partX x i).o.length := by omega
      have hmem : p ∈ x.o := List.mem_of_getElem? hp'
      have hwp := hw p hmem
      have e7 : IntKind.i64.wrap ((i : Int) + 1) = ((i + 1 : Nat) : Int) := by rw [wrap_id (by omega) (by omega)]; omega
      have b0 : 1 ≤ maxLen := by simp -implicitDefEqProofs [maxLen]
      have b1 : (partX x i).f.length + 1 ≤ maxLen := by simp -implicitDefEqProofs [maxLen]; omega
      have b2 : ((partX x i).f.length + 1) * 40 ≤ 140737488355328 := by omega
      refine Tri.seq ?_
      refine Tri.seqX ttok rfl (by simp -implicitDefEqProofs [pXX, pOO, pFF, xCells, neXO, neXF, neXA, neOF, neOA, neFA, neXO', neXF', neXA', neOF', neOA', neFA', hlen, hlen, yol, yck, ygt, hyi, hyl, opnRow] <;> rfl) ?_
      refine Tri.cond (b := true) (by simp -implicitDefEqProofs [pXX, pOO, pFF, xCells, neXO, neXF, neXA, neOF, neOA, neFA, neXO', neXF', neXA', neOF', neOA', neFA', hlen, hlen, yol, yck, ygt, hyi, hyl, opnRow]) (fun _ => ?_) (fun h => by cases h)
      by_cases hd : p.time = x.clock + 1
      · refine Tri.skip ?_
        refine Tri.seq ?_
        refine Tri.block ?_
        refine Tri.seq ?_
        refine Tri.seqD ttok mix [0, 1, 2, 4, 8, 9, 10, 3, 5, 6, 7, 11, 12] (by kernel_rfl) rfl ?_
        simp only [List.filterMap, List.map, List.getElem?_cons_succ, List.getElem?_cons_zero]
        refine OpsA.all (by simp -implicitDefEqProofs [pXX, pOO, pFF, xCells, neXO, neXF, neXA, neOF, neOA, neFA, neXO', neXF', neXA', neOF', neOA', neFA', hlen, hlen, yol, yck, ygt, hyi, hyl, opnRow, hd] <;> rfl) ?_
        refine Tri.cond (b := false) (by simp -implicitDefEqProofs [pXX, pOO, pFF, xCells, neXO, neXF, neXA, neOF, neOA, neFA, neXO', neXF', neXA', neOF', neOA', neFA', hlen, hlen, yol, yck, ygt, hyi, hyl, opnRow, hd]) (fun h => by cases h) (fun _ => ?_)
        refine Tri.skip ?_
        refine Tri.seqD ttok mix [0, 1, 2, 3, 5, 6, 7, 9, 4, 8, 10, 11, 12, 13, 14, 15, 16, 17, 18] (by kernel_rfl) rfl ?_
        simp only [List.filterMap, List.map, List.getElem?_cons_succ, List.getElem?_cons_zero]
        refine OpsA.all (by simp -implicitDefEqProofs [pXX, pOO, pFF, xCells, neXO, neXF, neXA, neOF, neOA, neFA, neXO', neXF', neXA', neOF', neOA', neFA', hlen, hlen, yol, yck, ygt, hyi, hyl, opnRow, hd, b0, b1, b2] <;> rfl) ?_
        obtain ⟨y1, hy1⟩ : ∃ y1, ({ partX x i with f := (partX x i).f ++ [⟨false, p.e⟩] } : RW) = y1 := ⟨_, rfl⟩
        obtain ⟨g1, hg1⟩ : ∃ g1, ({ gy with f := gy.f + 1 } : Gens) = g1 := ⟨_, rfl⟩
        refine Tri.gh (Le.gh (s' := { t := tl [(0, .ptr X 0), (2, .int .i64 (i : Int))], σ := putX σ X O F A y1 g1, c := c, fr := [], m := 87, ds := [] }) ⟨LeT.cons (by simp -implicitDefEqProofs) (LeT.cons (by simp -implicitDefEqProofs) LeT.nil), ?_, by simp -implicitDefEqProofs, by simp -implicitDefEqProofs, rfl, rfl⟩) ?_
        · have := putX_setF (σ := σ) (x := partX x i) (g := gy) four (f' := (partX x i).f ++ [⟨false, p.e⟩]) (gf := gy.f + 1)
          rw [← hy1, ← hg1, ← this]
          simp [xCells, msgRow, yol, yck]
        have e2 : IntKind.i64.wrap (2 * p.wait) = 2 * p.wait := wrap_id (by omega) (by omega)
        have emin : (if 8 < 2 * p.wait then 8 else 2 * p.wait) = min (2 * p.wait) 8 := by split <;> omega
        have z1 : y1.o = (partX x i).o := by rw [← hy1]
        have z2 : y1.clock = x.clock + 1 := by rw [← hy1]; rfl
        have z3 : y1.o[i]? = some p := by rw [z1]; exact ygt
        have z5 : i < y1.o.length := by rw [z1]; exact hyl
        have z4 : y1.o[i]'z5 = p := (List.getElem?_eq_some_iff.1 z3).2
        refine Tri.seqD ttok mix [0, 1, 2, 4, 5, 6, 7, 9, 3, 8, 10, 11, 12, 13, 14, 15, 16, 17] (by kernel_rfl) rfl ?_
        simp only [List.filterMap, List.map, List.getElem?_cons_succ, List.getElem?_cons_zero]
        refine OpsA.all (by simp -implicitDefEqProofs [hlen, opnRow, z3, z4, z2, z5, e2, emin, pXX, pOO, pFF, xCells, hd, neXO, neXF, neXA, neOF, neOA, neFA, neXO', neXF', neXA', neOF', neOA', neFA'] <;> rfl) ?_
        obtain ⟨y2, hy2⟩ : ∃ y2, ({ y1 with o := y1.o.set i ⟨p.e, x.clock + 1, min (2 * p.wait) 8⟩ } : RW) = y2 := ⟨_, rfl⟩
        refine Tri.gh (Le.gh (s' := { t := tl [(0, .ptr X 0), (2, .int .i64 (i : Int))], σ := putX σ X O F A y2 g1, c := c, fr := [], m := 87, ds := [] }) ⟨LeT.cons (by simp -implicitDefEqProofs) (LeT.cons (by simp -implicitDefEqProofs) LeT.nil), ?_, by simp -implicitDefEqProofs, by simp -implicitDefEqProofs, rfl, rfl⟩) ?_
        · have := putX_inO (σ := σ) (x := y1) (g := g1) four (o' := y1.o.set i ⟨p.e, x.clock + 1, min (2 * p.wait) 8⟩) (by simp -implicitDefEqProofs)
          rw [hy2] at this
          rw [← this]
          simp [List.map_set, opnRow, hd, emin]
        have v5 : i < y2.o.length := by rw [← hy2]; simpa using z5
        have v4 : y2.o[i]'v5 = ⟨p.e, x.clock + 1, min (2 * p.wait) 8⟩ := by subst hy2; simp
        have v3 : y2.o[i]? = some ⟨p.e, x.clock + 1, min (2 * p.wait) 8⟩ := by rw [List.getElem?_eq_getElem v5, v4]
        have v2 : y2.clock = x.clock + 1 := by rw [← hy2]; exact z2
        have e3 : IntKind.i64.wrap (x.clock + 1 + min (2 * p.wait) 8) = x.clock + 1 + min (2 * p.wait) 8 := wrap_id (by omega) (by omega)
        refine Tri.drawn ttok mix [0, 1, 2, 4, 5, 6, 7, 9, 10, 11, 13, 3, 8, 12, 14, 15, 16, 17, 18, 19, 20] (by kernel_rfl) rfl ?_
        simp only [List.filterMap, List.map, List.getElem?_cons_succ, List.getElem?_cons_zero]
        refine OpsA.all (by simp -implicitDefEqProofs [hlen, opnRow, v3, v4, v2, v5, e3, pXX, pOO, pFF, xCells, neXO, neXF, neXA, neOF, neOA, neFA, neXO', neXF', neXA', neOF', neOA', neFA'] <;> rfl) ?_
        try simp only [thenQ, blockQ]
        refine Tri.gh (Le.gh (s' := { t := tl [(0, .ptr X 0), (2, .int .i64 (i : Int))], σ := putX σ X O F A (partX x (i + 1)) g1, c := c, fr := [], m := 87, ds := [] }) ⟨LeT.cons (by simp -implicitDefEqProofs) (LeT.cons (by simp -implicitDefEqProofs) LeT.nil), ?_, by simp -implicitDefEqProofs, by simp -implicitDefEqProofs, rfl, rfl⟩) ?_
        · have := putX_inO (σ := σ) (x := y2) (g := g1) four (o' := y2.o.set i ⟨p.e, x.clock + 1 + min (2 * p.wait) 8, min (2 * p.wait) 8⟩) (by simp -implicitDefEqProofs)
          have e : ({ y2 with o := y2.o.set i ⟨p.e, x.clock + 1 + min (2 * p.wait) 8, min (2 * p.wait) 8⟩ } : RW) = partX x (i + 1) := by
            rw [partX_due hp' hd, ← hy2, ← hy1]; simp
          rw [e] at this
          rw [← this]
          simp [List.map_set, opnRow]
        refine Tri.x ttok rfl (by simp -implicitDefEqProofs [hlen, opnRow, v3, v4, v2, v5, e3, pXX, pOO, pFF, xCells, neXO, neXF, neXA, neOF, neOA, neFA, neXO', neXF', neXA', neOF', neOA', neFA'] <;> rfl) ?_
        exact ⟨(i + 1, g1), by show i + 1 ≤ x.o.length; omega, by show x.o.length - (i + 1) < x.o.length - i; omega, Le.gh ⟨LeT.cons (by simp -implicitDefEqProofs [e7]) (LeT.cons (by simp -implicitDefEqProofs [e7]) (LeT.nil)), by simp -implicitDefEqProofs [], by simp -implicitDefEqProofs, by simp -implicitDefEqProofs, rfl, rfl⟩⟩
      · refine Tri.skip ?_
        refine Tri.seq ?_
        refine Tri.block ?_
        refine Tri.seq ?_
        refine Tri.seqD ttok mix [0, 1, 2, 4, 8, 9, 10, 3, 5, 6, 7, 11, 12] (by kernel_rfl) rfl ?_
        simp only [List.filterMap, List.map, List.getElem?_cons_succ, List.getElem?_cons_zero]
        refine OpsA.all (by simp -implicitDefEqProofs [pXX, pOO, pFF, xCells, neXO, neXF, neXA, neOF, neOA, neFA, neXO', neXF', neXA', neOF', neOA', neFA', hlen, hlen, yol, yck, ygt, hyi, hyl, opnRow, hd] <;> rfl) ?_
        refine Tri.cond (b := true) (by simp -implicitDefEqProofs [pXX, pOO, pFF, xCells, neXO, neXF, neXA, neOF, neOA, neFA, neXO', neXF', neXA', neOF', neOA', neFA', hlen, hlen, yol, yck, ygt, hyi, hyl, opnRow, hd]) (fun _ => ?_) (fun h => by cases h)
        have hnd := partX_not hp' hd
        refine Tri.exit ?_
        try simp only [thenQ, blockQ, if_true]
        refine Tri.x ttok rfl (by simp -implicitDefEqProofs [pXX, pOO, pFF, xCells, neXO, neXF, neXA, neOF, neOA, neFA, neXO', neXF', neXA', neOF', neOA', neFA', hlen, hlen, yol, yck, ygt, hyi, hyl, opnRow, hd] <;> rfl) ?_
        exact ⟨(i + 1, gy), by show i + 1 ≤ x.o.length; omega, by show x.o.length - (i + 1) < x.o.length - i; omega, Le.gh ⟨LeT.cons (by simp -implicitDefEqProofs [e7]) (LeT.cons (by simp -implicitDefEqProofs [e7]) (LeT.nil)), by simp -implicitDefEqProofs [hnd], by simp -implicitDefEqProofs, by simp -implicitDefEqProofs, rfl, rfl⟩⟩
    · refine Tri.seq ?_
      refine Tri.seqX ttok rfl (by simp -implicitDefEqProofs [pXX, pOO, pFF, xCells, neXO, neXF, neXA, neOF, neOA, neFA, neXO', neXF', neXA', neOF', neOA', neFA', hlen, hlen, yol] <;> rfl) ?_
      refine Tri.cond (b := false) (by simp -implicitDefEqProofs [pXX, pOO, pFF, xCells, neXO, neXF, neXA, neOF, neOA, neFA, neXO', neXF', neXA', neOF', neOA', neFA', hlen, hlen, yol]) (fun h => by cases h) (fun _ => ?_)
      refine Tri.exit ?_
      try simp only [thenQ, blockQ, if_true]
      obtain rfl : i = x.o.length := by omega
      have key := fin _ σ (tickX x) gy rfl (Stays.refl _ _) hσ
      refine fnPost.none (.inl rfl) rfl rfl ?_ ⟨rfl, gy, ?_⟩
      · simpa [partX_all] using key.1
      · simpa [partX_all] using key.2
end Go.Proofs.Ytilpklkgmibpgaa
