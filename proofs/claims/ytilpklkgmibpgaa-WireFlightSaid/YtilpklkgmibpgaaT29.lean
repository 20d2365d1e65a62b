import Derived.Test.YtilpklkgmibpgaaT28
namespace Go.Proofs.Ytilpklkgmibpgaa
open Go.Ab
set_option maxHeartbeats 400000
set_option linter.unusedVariables false
set_option linter.unusedSimpArgs false
attribute [local simp] tt3 tt4 tt9 tt22 tt24 tt30 tt31 tt36 tt42 tt55 tt57 tt63 tt71 tt72 tt74 tt77 tt81
attribute [local simp] eqA sliceEq rowsA fillR appendA AV.lt mapElem lookupA mapPutA mapDelA mapClearA lenA sliceA indexA nth buildA fillA placesA TI.zv nilEq fieldOfA
attribute [local simp] List.filter_cons


theorem find_at {l : List Ev} {i : Nat} {p : Ev} {key : Int} (hno : ∀ (j : Nat) (q : Ev), j < i → l[j]? = some q → q.key ≠ key) (hp : l[i]? = some p) (hk : p.key = key) : l.find? (fun a => a.key = key) = some p := by
  induction l generalizing i with
  | nil => simp at hp
  | cons a l ih =>
    cases i with
    | zero => simp only [List.getElem?_cons_zero] at hp; cases hp; simp [hk]
    | succ i =>
      have := hno 0 a (by omega) (by simp -implicitDefEqProofs)
      simp only [List.find?_cons, this, decide_false]
      exact ih (i := i) (fun j q hj hq => hno (j + 1) q (by omega) (by simpa using hq)) (by simpa using hp)
theorem find_no {l : List Ev} {key : Int} (hno : ∀ (j : Nat) (q : Ev), j < l.length → l[j]? = some q → q.key ≠ key) : l.find? (fun a => a.key = key) = none := by
  rw [List.find?_eq_none]
  intro q hq
  obtain ⟨j, hj, hj2⟩ := List.mem_iff_getElem.1 hq
  simpa using hno j q hj (by rw [List.getElem?_eq_getElem hj, hj2])
def valX (x : RW) (e : Ev) : Int := match x.a.find? fun a => a.key = e.key with
  | some a => a.value
  | none => x.v[x.a.length]?.getD e.value
def applyX (x : RW) (e : Ev) : RW := match x.a.find? fun a => a.key = e.key with
  | some _ => x
  | none => { x with a := x.a ++ [⟨e.name, e.key, x.v[x.a.length]?.getD e.value⟩] }
theorem call_xapply50 {σ : Nat → Option AO} {X O F A : Nat} {x : RW} {g : Gens} (h : IsX σ X O F A x g) {e : Ev} (hal : x.a.length < 900000) : CallA Try.prog 50 [.ptr X 0, evAV e] σ [] fun r σ' => r = .int .i64 (valX x e) ∧ ∃ g', σ' = putX σ X O F A (applyX x e) g' := by
  refine CallA.of ttok Try.func50 rfl (show 2 ≤ 69 by decide) fun c hF => ?_
  refine Tri.fresh ?_
  have hσ : cutσ c σ = σ := cutσ_self fun n hn => (hF.good.2 n hn : σ n = none)
  have hn := h.n
  have ho := h.o
  have hf := h.f
  have ha := h.a
  have hXc : X < c := (hF.σ X _ h.n).1
  have hOc : O < c := (hF.σ O _ h.o).1
  have hFc : F < c := (hF.σ F _ h.f).1
  have hAc : A < c := (hF.σ A _ h.a).1
  have four := h.four
  have neXO := four.xo
  have neXF := four.xf
  have neXA := four.xa
  have neOF := four.of
  have neOA := four.oa
  have neFA := four.fa
  have neXO' := four.xo.symm
  have neXF' := four.xf.symm
  have neXA' := four.xa.symm
  have neOF' := four.of.symm
  have neOA' := four.oa.symm
  have neFA' := four.fa.symm
  have fin : ∀ (s σ1 : Nat → Option AO) (nx : RW) (ng : Gens), s = putX σ1 X O F A nx ng → Stays c σ σ1 → cutσ c σ1 = σ → Stays c σ s ∧ cutσ c s = putX σ X O F A nx ng := by
    rintro s σ1 nx ng rfl h1 h2
    exact ⟨Stays.putX hOc hFc hAc h1, by rw [cut_putX hXc hOc hFc hAc, h2]⟩
  have nX : X ≠ c := by omega
  have nO : O ≠ c := by omega
  have nF : F ≠ c := by omega
  have nA : A ≠ c := by omega
  have nX' : c ≠ X := by omega
  have nA' : c ≠ A := by omega
  refine Tri.seqR ttok rfl ?_
  refine OpsA.new (c) rfl (by simp -implicitDefEqProofs [nX, nO, nF, nA, nX', nA', evAV, hn, ho, hf, ha, xCells] <;> rfl) (by simp -implicitDefEqProofs) (by simp -implicitDefEqProofs <;> rfl) ?_
  refine OpsA.all (by simp -implicitDefEqProofs [nX, nO, nF, nA, nX', nA', evAV, hn, ho, hf, ha, xCells] <;> rfl) ?_
  refine Tri.seq ?_
  refine Tri.seqX ttok rfl (by simp -implicitDefEqProofs [nX, nO, nF, nA, nX', nA', evAV, hn, ho, hf, ha, xCells] <;> rfl) ?_
  refine Tri.block ?_
  refine Tri.loopL (α := Nat) (fun x_ => ({ t := tl [(0, .ptr X 0), (3, .ptr c 0), (4, .int .i64 0), (5, .int .i64 (x_ : Int))], σ := upd σ c (some (.cells 30 [.str e.name, .int .i64 e.key, .int .i64 e.value])), c := c + 1, fr := [], m := 69, ds := [] } : AS)) (fun x_ => x.a.length - x_) (fun x_ => x_ ≤ x.a.length ∧ ∀ (j : Nat) (q : Ev), j < x_ → x.a[j]? = some q → q.key ≠ e.key) 0 ?_ ⟨Nat.zero_le _, fun j p hj => absurd hj (Nat.not_lt_zero _)⟩ ?_
  · refine Le.gh ⟨?_, ?_, ?_, ?_, ?_, ?_⟩
    · exact LeT.cons (by simp -implicitDefEqProofs [evAV]) (LeT.cons (by simp -implicitDefEqProofs [evAV]) (LeT.cons (by simp -implicitDefEqProofs [evAV]) (LeT.cons (by simp -implicitDefEqProofs [evAV]) (LeT.nil))))
    · simp [evAV]
    · simp
    · simp
    · rfl
    · rfl
  · rintro i ⟨hi, hno⟩
    by_cases hlen : i < x.a.length
    · obtain ⟨p, hp⟩ : ∃ v, x.a[i]'(hlen) = v := ⟨_, rfl⟩
      have hp' : x.a[i]? = some p := by rw [List.getElem?_eq_getElem (hlen), hp]
      refine Tri.seq ?_
      refine Tri.seqX ttok rfl (by simp -implicitDefEqProofs [hlen, hp, hp', evRow, nX, nO, nF, nA, nX', nA', hn, ho, hf, ha, xCells] <;> rfl) ?_
      refine Tri.cond (b := true) (by simp -implicitDefEqProofs [hlen, hp, hp', evRow, nX, nO, nF, nA, nX', nA', hn, ho, hf, ha, xCells]) (fun _ => ?_) (fun h => by cases h)
      by_cases hk : p.key = e.key
      · refine Tri.skip ?_
        refine Tri.seq ?_
        refine Tri.block ?_
        refine Tri.seqD ttok mix [0, 1, 2, 4, 8, 3, 5, 6, 7, 9, 10] (by kernel_rfl) rfl ?_
        simp only [List.filterMap, List.map, List.getElem?_cons_succ, List.getElem?_cons_zero]
        refine OpsA.all (by simp -implicitDefEqProofs [hlen, hp, hp', evRow, nX, nO, nF, nA, nX', nA', hn, ho, hf, ha, xCells, hk] <;> rfl) ?_
        refine Tri.cond (b := true) (by simp -implicitDefEqProofs [hlen, hp, hp', evRow, nX, nO, nF, nA, nX', nA', hn, ho, hf, ha, xCells, hk]) (fun _ => ?_) (fun h => by cases h)
        refine Tri.seqX ttok rfl (by simp -implicitDefEqProofs [hlen, hp, hp', evRow, nX, nO, nF, nA, nX', nA', hn, ho, hf, ha, xCells, hk] <;> rfl) ?_
        refine Tri.ret ?_
        have hfind := find_at hno hp' hk
        refine fnPost.tmp (.inr rfl) rfl rfl (by simp -implicitDefEqProofs <;> rfl) (by exact True.intro) (by simp -implicitDefEqProofs; exact Stays.new (by omega) (Stays.refl _ _)) ⟨by simp -implicitDefEqProofs [valX, hfind], g, ?_⟩
        rw [show applyX x e = x by simp -implicitDefEqProofs [applyX, hfind], h.self]
        simp [cutσ_new, hσ]
      · refine Tri.skip ?_
        refine Tri.seq ?_
        refine Tri.block ?_
        refine Tri.seqD ttok mix [0, 1, 2, 4, 8, 3, 5, 6, 7, 9, 10] (by kernel_rfl) rfl ?_
        simp only [List.filterMap, List.map, List.getElem?_cons_succ, List.getElem?_cons_zero]
        refine OpsA.all (by simp -implicitDefEqProofs [hlen, hp, hp', evRow, nX, nO, nF, nA, nX', nA', hn, ho, hf, ha, xCells, hk] <;> rfl) ?_
        refine Tri.cond (b := false) (by simp -implicitDefEqProofs [hlen, hp, hp', evRow, nX, nO, nF, nA, nX', nA', hn, ho, hf, ha, xCells, hk]) (fun h => by cases h) (fun _ => ?_)
        have e7 : IntKind.i64.wrap ((i : Int) + 1) = ((i + 1 : Nat) : Int) := by rw [wrap_id (by omega) (by omega)]; omega
        refine Tri.skip ?_
        try simp only [thenQ, blockQ]
        refine Tri.x ttok rfl (by simp -implicitDefEqProofs [hlen, hp, hp', evRow, nX, nO, nF, nA, nX', nA', hn, ho, hf, ha, xCells, hk] <;> rfl) ?_
        refine ⟨i + 1, ⟨by omega, fun j q hj hq => ?_⟩, by omega, Le.gh ⟨LeT.cons (by simp -implicitDefEqProofs [e7]) (LeT.cons (by simp -implicitDefEqProofs [e7]) (LeT.cons (by simp -implicitDefEqProofs [e7]) (LeT.cons (by simp -implicitDefEqProofs [e7]) (LeT.nil)))), by simp -implicitDefEqProofs, by simp -implicitDefEqProofs, by simp -implicitDefEqProofs, rfl, rfl⟩⟩
        rcases Nat.lt_or_eq_of_le (Nat.lt_succ_iff.1 hj) with hj | rfl
        · exact hno j q hj hq
        · rw [hp'] at hq; cases hq; exact hk
    · have hil : i = x.a.length := by omega
      subst hil
      have hfind := find_no hno
      have b0 : 1 ≤ maxLen := by simp -implicitDefEqProofs [maxLen]
      have b1 : x.a.length + 1 ≤ maxLen := by simp -implicitDefEqProofs [maxLen]; omega
      have b2 : (x.a.length + 1) * 32 ≤ 140737488355328 := by omega
      refine Tri.seq ?_
      refine Tri.seqX ttok rfl (by simp -implicitDefEqProofs [hlen, evRow, b0, b1, b2, nX, nO, nF, nA, nX', nA', neXA, neXA', hn, ho, hf, ha, xCells] <;> rfl) ?_
      refine Tri.cond (b := false) (by simp -implicitDefEqProofs [hlen, evRow, b0, b1, b2, nX, nO, nF, nA, nX', nA', neXA, neXA', hn, ho, hf, ha, xCells]) (fun h => by cases h) (fun _ => ?_)
      by_cases hv : x.a.length < x.v.length
      · obtain ⟨z, hz⟩ : ∃ v, x.v[x.a.length]'(hv) = v := ⟨_, rfl⟩
        have hz' : x.v[x.a.length]? = some z := by rw [List.getElem?_eq_getElem (hv), hz]
        have hgd : x.v[x.a.length]?.getD e.value = z := by rw [hz']; rfl
        refine Tri.exit ?_
        try simp only [thenQ, blockQ, if_true]
        refine Tri.seq ?_
        refine Tri.seqD ttok mix [0, 1, 2, 5, 6, 7, 3, 4, 8, 9, 10] (by kernel_rfl) rfl ?_
        simp only [List.filterMap, List.map, List.getElem?_cons_succ, List.getElem?_cons_zero]
        refine OpsA.all (by simp -implicitDefEqProofs [hlen, evRow, b0, b1, b2, nX, nO, nF, nA, nX', nA', neXA, neXA', hn, ho, hf, ha, xCells, hv, hz, hz', intRow] <;> rfl) ?_
        refine Tri.cond (b := true) (by simp -implicitDefEqProofs [hlen, evRow, b0, b1, b2, nX, nO, nF, nA, nX', nA', neXA, neXA', hn, ho, hf, ha, xCells, hv, hz, hz', intRow]) (fun _ => ?_) (fun h => by cases h)
        obtain ⟨σL, hσL⟩ : ∃ σL, upd σ c (some (AO.cells 30 [.str e.name, .int .i64 e.key, .int .i64 z])) = σL := ⟨_, rfl⟩
        have hL : IsX σL X O F A x g := by
          rw [← hσL]
          exact ⟨by rw [upd_ne _ _ nX]; exact hn, by rw [upd_ne _ _ nO]; exact ho, by rw [upd_ne _ _ nF]; exact hf, by rw [upd_ne _ _ nA]; exact ha, h.vl, h.ol, h.fl, h.al, h.ck⟩
        have hSt : Stays c σ σL := by rw [← hσL]; exact Stays.new (by omega) (Stays.refl _ _)
        have hcL : cutσ c σL = σ := by rw [← hσL, cutσ_new _ (by omega), hσ]
        refine Tri.drawn ttok mix [0, 1, 2, 4, 5, 6, 3, 7, 8, 9, 10, 11, 12] (by kernel_rfl) rfl ?_
        simp only [List.filterMap, List.map, List.getElem?_cons_succ, List.getElem?_cons_zero]
        refine OpsA.all (by simp -implicitDefEqProofs [hlen, evRow, b0, b1, b2, nX, nO, nF, nA, nX', nA', neXA, neXA', hn, ho, hf, ha, xCells, hv, hz, hz', intRow] <;> rfl) ?_
        refine Tri.seqD ttok mix [0, 1, 2, 3, 4, 5, 6, 7, 8, 9, 10] (by kernel_rfl) rfl ?_
        simp only [List.filterMap, List.map, List.getElem?_cons_succ, List.getElem?_cons_zero]
        refine OpsA.all (by simp -implicitDefEqProofs [hlen, evRow, b0, b1, b2, nX, nO, nF, nA, nX', nA', neXA, neXA', hn, ho, hf, ha, xCells, hv, hz, hz', intRow] <;> rfl) ?_
        refine Tri.seqX ttok rfl (by simp -implicitDefEqProofs [hlen, evRow, b0, b1, b2, nX, nO, nF, nA, nX', nA', neXA, neXA', hn, ho, hf, ha, xCells, hv, hz, hz', intRow] <;> rfl) ?_
        refine Tri.ret ?_
        have hset := setA' hL (a' := x.a ++ [⟨e.name, e.key, z⟩]) (ga := g.a + 1)
        have key := fin _ σL _ _ hset hSt hcL
        refine fnPost.tmp (.inr rfl) rfl rfl (by simp -implicitDefEqProofs <;> rfl) (by exact True.intro) ?_ ⟨by simp -implicitDefEqProofs [valX, hfind, hgd], { g with a := g.a + 1 }, ?_⟩
        · have := key.1
          simpa [xCells, evRow, ← hσL, upd_comm, nX] using this
        · have := key.2
          simpa [xCells, evRow, ← hσL, applyX, hfind, hgd] using this
      · have hgd : x.v[x.a.length]?.getD e.value = e.value := by rw [List.getElem?_eq_none (by omega)]; rfl
        refine Tri.exit ?_
        try simp only [thenQ, blockQ, if_true]
        refine Tri.seq ?_
        refine Tri.seqD ttok mix [0, 1, 2, 5, 6, 7, 3, 4, 8, 9, 10] (by kernel_rfl) rfl ?_
        simp only [List.filterMap, List.map, List.getElem?_cons_succ, List.getElem?_cons_zero]
        refine OpsA.all (by simp -implicitDefEqProofs [hlen, evRow, b0, b1, b2, nX, nO, nF, nA, nX', nA', neXA, neXA', hn, ho, hf, ha, xCells, hv] <;> rfl) ?_
        refine Tri.cond (b := false) (by simp -implicitDefEqProofs [hlen, evRow, b0, b1, b2, nX, nO, nF, nA, nX', nA', neXA, neXA', hn, ho, hf, ha, xCells, hv]) (fun h => by cases h) (fun _ => ?_)
        obtain ⟨σL, hσL⟩ : ∃ σL, upd σ c (some (AO.cells 30 [.str e.name, .int .i64 e.key, .int .i64 e.value])) = σL := ⟨_, rfl⟩
        have hL : IsX σL X O F A x g := by
          rw [← hσL]
          exact ⟨by rw [upd_ne _ _ nX]; exact hn, by rw [upd_ne _ _ nO]; exact ho, by rw [upd_ne _ _ nF]; exact hf, by rw [upd_ne _ _ nA]; exact ha, h.vl, h.ol, h.fl, h.al, h.ck⟩
        have hSt : Stays c σ σL := by rw [← hσL]; exact Stays.new (by omega) (Stays.refl _ _)
        have hcL : cutσ c σL = σ := by rw [← hσL, cutσ_new _ (by omega), hσ]
        refine Tri.skip ?_
        refine Tri.seqD ttok mix [0, 1, 2, 3, 4, 5, 6, 7, 8, 9, 10] (by kernel_rfl) rfl ?_
        simp only [List.filterMap, List.map, List.getElem?_cons_succ, List.getElem?_cons_zero]
        refine OpsA.all (by simp -implicitDefEqProofs [hlen, evRow, b0, b1, b2, nX, nO, nF, nA, nX', nA', neXA, neXA', hn, ho, hf, ha, xCells, hv] <;> rfl) ?_
        refine Tri.seqX ttok rfl (by simp -implicitDefEqProofs [hlen, evRow, b0, b1, b2, nX, nO, nF, nA, nX', nA', neXA, neXA', hn, ho, hf, ha, xCells, hv] <;> rfl) ?_
        refine Tri.ret ?_
        have hset := setA' hL (a' := x.a ++ [⟨e.name, e.key, e.value⟩]) (ga := g.a + 1)
        have key := fin _ σL _ _ hset hSt hcL
        refine fnPost.tmp (.inr rfl) rfl rfl (by simp -implicitDefEqProofs <;> rfl) (by exact True.intro) ?_ ⟨by simp -implicitDefEqProofs [valX, hfind, hgd], { g with a := g.a + 1 }, ?_⟩
        · have := key.1
          simpa [xCells, evRow, ← hσL, upd_comm, nX] using this
        · have := key.2
          simpa [xCells, evRow, ← hσL, applyX, hfind, hgd] using this
end Go.Proofs.Ytilpklkgmibpgaa
