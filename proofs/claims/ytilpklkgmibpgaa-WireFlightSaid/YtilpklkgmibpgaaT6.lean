import Derived.Test.YtilpklkgmibpgaaT4
namespace Go.Proofs.Ytilpklkgmibpgaa
open Go.Ab
set_option maxHeartbeats 400000
set_option linter.unusedVariables false
set_option linter.unusedSimpArgs false
attribute [local simp] tt3 tt4 tt9 tt22 tt24 tt30 tt31 tt36 tt42 tt55 tt57 tt63
attribute [local simp] eqA sliceEq rowsA fillR appendA AV.lt mapElem lookupA mapPutA mapDelA mapClearA lenA sliceA indexA nth buildA fillA placesA TI.zv

theorem call_new14 {σ : Nat → Option AO} {N M K : Nat} {vs : List Int} (hvs : vs.length ≤ 1000000) (hNM : N ≠ M) (hNK : N ≠ K) (hMK : M ≠ K) :
    CallA Try.prog 14 [.sl (vs.map intRow)] σ [N, M, K] fun x σ' => x = .ptr N 0 ∧ σ' = putW σ N M K ⟨vs, 0, [], [], [], 0⟩ := by
  refine CallA.of ttok Try.func14 rfl (show 1 ≤ 8 by decide) fun c hF => ?_
  have hσ : cutσ c σ = σ := cutσ_self fun n hn => (hF.good.2 n hn : σ n = none)
  have hNc : N < c := hF.fr N (by simp [startA])
  have hMc : M < c := hF.fr M (by simp [startA])
  have hKc : K < c := hF.fr K (by simp [startA])
  refine Tri.seqX ttok rfl (by simp <;> rfl) ?_
  refine Tri.seq (Tri.region ttok rfl ?_)
  refine OpsA.runX 1 (by simp <;> rfl) ?_
  simp only [List.drop]
  refine OpsA.call (call_clone34 (ok_int vs) (by simpa using hvs)) rfl (by simp <;> rfl) (by kernel_rfl) (by simp) rfl ?_
  rintro x σ' ⟨rfl, rfl⟩
  refine OpsA.new M rfl (by simp <;> rfl) (by simp) rfl ?_
  refine OpsA.runX 1 (by simp <;> rfl) ?_
  simp only [List.drop]
  refine OpsA.new N rfl (by simp <;> rfl) (by simp [hNM]) rfl ?_
  refine OpsA.all (by simp <;> rfl) ?_
  refine Tri.ret (fnPost.gh (Gh.nilO (n := K) (m := N) (k := 4) (T' := 57) (cs := [.sl (vs.map intRow), .int .i64 0, .map M, .nils, .nils]) 30 3 (by simp [hNK.symm, hMK.symm]) (by simp) rfl) ?_)
  refine fnPost.gh (Gh.wkO (n := N) (T := 57) (cs := [.sl (vs.map intRow), .int .i64 0, .map M, .nils, .os K 0 0]) (cs' := wireCells ⟨vs, 0, [], [], [], 0⟩ M K) (by simp) ⟨Wk.refl _, Wk.refl _, Wk.refl _, Wk.nils, Wk.refl _, trivial⟩) ?_
  refine fnPost.tmp (.inr rfl) rfl (by rfl) (by simp <;> rfl) (by exact hNc) ?_ ⟨rfl, ?_⟩
  · simp only [σ_put, σ_with]
    rw [upd_idem, upd_comm _ _ _ hNK, upd_idem, upd_comm _ _ _ hMK]
    exact Stays.putW (w' := ⟨vs, 0, [], [], [], 0⟩) hMc hKc (Stays.refl _ _)
  · simp only [σ_put, σ_with]
    rw [upd_idem, upd_comm _ _ _ hNK, upd_idem, upd_comm _ _ _ hMK]
    exact (cut_putW (w' := ⟨vs, 0, [], [], [], 0⟩) hNc hMc hKc).trans (by rw [hσ])

/-- What a key told, or tells now. -/
def valueOf (w : Wire) (e : Ev) : Int := match w.applied.find? fun a => a.key = e.key with
  | some a => a.value
  | none => w.values.getD w.applied.length 0
def valueW (w : Wire) (e : Ev) : Wire := match w.applied.find? fun a => a.key = e.key with
  | some _ => w
  | none => { w with applied := w.applied ++ [⟨e.name, e.key, w.values.getD w.applied.length 0⟩], gen := w.gen + 1 }

theorem call_value40 {σ : Nat → Option AO} {N M K : Nat} {w : Wire} {e : Ev} (hw : IsW σ N M K w) :
    CallA Try.prog 40 [.ptr N 0, evAV e] σ [] fun x σ' => x = .int .i64 (valueOf w e) ∧ σ' = putW σ N M K (valueW w e) := by
  refine CallA.of ttok Try.func40 rfl (show 2 ≤ 61 by decide) fun c hF => ?_
  have hσ : cutσ c σ = σ := cutσ_self fun n hn => (hF.good.2 n hn : σ n = none)
  have hn := hw.n
  have hNc : N < c := (hF.σ N _ hn).1
  have hMc : M < c := (hF.σ M _ hw.m).1
  have hKc : K < c := (hF.σ K _ hw.k).1
  have n0 : N ≠ c := by omega
  have k0 : K ≠ c := by omega
  have hkk := hw.k
  refine Tri.fresh ?_
  refine Tri.seq (Tri.region ttok rfl ?_)
  refine OpsA.new c rfl (by simp [evAV] <;> rfl) (by simp) (by simp <;> rfl) ?_
  refine OpsA.all (by simp <;> rfl) ?_
  have hNσ : ∀ x, upd σ c x N = some (.cells 57 (wireCells w M K)) := fun x => by rw [upd_ne _ _ n0]; exact hn
  refine Tri.seq (Tri.seqX ttok rfl (by simp [hn, wireCells, n0] <;> rfl) ?_)
  refine Tri.block ?_
  have hap := hw.ap
  refine Tri.loop (fun n s => ∃ j, n = w.applied.length - j ∧ j ≤ w.applied.length ∧ (∀ a ∈ w.applied.take j, a.key ≠ e.key) ∧ s.σ = upd σ c (some (.cells 30 [.str e.name, .int .i64 e.key, .int .i64 e.value])) ∧ s.ev (.tmp 14) = .int .i64 j ∧ s.ev (.tmp 12) = .os K w.gen w.applied.length ∧
      s.ev (.tmp 13) = .int .i64 w.applied.length ∧ s.ev (.tmp 0) = .ptr N 0 ∧ s.ev (.tmp 3) = .ptr c 0 ∧ s.fr = [] ∧ s.ds = [] ∧ s.m = 61 ∧ c + 1 ≤ s.c) w.applied.length ?_ ?_
  · exact ⟨0, rfl, Nat.zero_le _, by simp, by simp, by simp, by simp, by simp, by simp, by simp, by simp, rfl, rfl, by simp⟩
  · rintro n s ⟨j, rfl, hj, hno, q1, q2, q3, q4, q5, q6, q7, q8, q9, q10⟩
    refine Tri.facts fun hF' => ?_
    refine Tri.seqX ttok (by rw [q9]; rfl) (by simp [q2, q4] <;> rfl) ?_
    refine Tri.seq (Tri.cond (by simp <;> rfl) (fun h => ?_) (fun h => ?_))
    · have h : j < w.applied.length := by simpa using h
      obtain ⟨a, ha0⟩ : ∃ a, w.applied[j]'h = a := ⟨_, rfl⟩
      have ha : w.applied[j]? = some a := by rw [List.getElem?_eq_getElem h, ha0]
      have ne1 : N ≠ s.c := by omega
      have ne2 : c ≠ s.c := by omega
      have ne3 : K ≠ s.c := by omega
      refine Tri.skip ?_
      refine Tri.fresh ?_
      refine Tri.seq (Tri.block ?_)
      refine Tri.seqX ttok (by simp only [m_put, m_with, m_grow, q9] <;> rfl) (by simp [q1, q2, q3, q7, ne2, ne3, k0, hkk, h, ha, evRow] <;> rfl) ?_
      refine Tri.seqX ttok (by simp only [m_put, m_with, m_grow, q9] <;> rfl) (by simp [q6, ne2] <;> rfl) ?_
      have hfr : upd σ c (some (.cells 30 [.str e.name, .int .i64 e.key, .int .i64 e.value])) s.c = none := by rw [← q1]; exact hF'.good.2 s.c (Nat.le_refl _)
      by_cases hkey : a.key = e.key
      · refine Tri.cond (b := true) (by simp [ha0, hkey]) (fun _ => ?_) (fun h => by cases h)
        refine Tri.seqX ttok (by simp only [m_put, m_with, m_grow, q9] <;> rfl) (by simp <;> rfl) ?_
        have hfind : w.applied.find? (fun a => a.key = e.key) = some a := by
          have hsp : w.applied = w.applied.take j ++ a :: w.applied.drop (j + 1) := by
            rw [← ha0]; simp
          rw [hsp, List.find?_append, List.find?_eq_none.2 (by simpa using hno)]
          simp [hkey]
        refine Tri.ret (fnPost.tmp (.inr rfl) rfl (by simp [q8]) (by simp <;> rfl) (by exact True.intro) ?_ ⟨?_, ?_⟩)
        · simp only [σ_put, σ_with]
          exact Stays.new (by omega) (Stays.new (Nat.le_refl _) (Stays.refl _ _))
        · simp [valueOf, hfind, ha0]
        · simp only [σ_put, σ_with]
          rw [cutσ_new _ (by omega), cutσ_new _ (Nat.le_refl _), hσ]
          simp [valueW, hfind, hw.self]
      · refine Tri.cond (b := false) (by simp [ha0, hkey]) (fun h => by cases h) (fun _ => ?_)
        refine Tri.skip ?_
        refine Tri.gh (Gh.kill s.c) ?_
        refine Tri.x ttok (by simp only [m_put, m_with, m_grow, q9] <;> rfl) (by simp [q2] <;> rfl) ?_
        have hwr : IntKind.i64.wrap ((j : Int) + 1) = ((j + 1 : Nat) : Int) := by rw [wrap_id (by omega) (by omega)]; simp
        refine ⟨w.applied.length - (j + 1), by omega, j + 1, rfl, by omega, ?_, ?_, by simp [hwr], by simp [q3], by simp [q4], by simp [q5], by simp [q6], by simp, by simp [q8], by simp only [m_put, m_with, m_grow, q9], by simp; omega⟩
        · intro b hb
          rw [List.take_add_one, ha] at hb
          rcases List.mem_append.1 hb with hb | hb
          · exact hno b hb
          · simp at hb; subst hb; exact hkey
        · simp only [σ_put, σ_with]
          exact upd_self _ _ hfr
    · have h : ¬ j < w.applied.length := by simpa using h
      refine Tri.exit ?_
      simp only [thenQ, blockQ, if_true]
      have hjl : j = w.applied.length := by omega
      have hnone : w.applied.find? (fun a => a.key = e.key) = none := by
        rw [List.find?_eq_none]
        rw [hjl, List.take_length] at hno
        simpa using hno
      have hvw : valueW w e = { w with applied := w.applied ++ [⟨e.name, e.key, w.values.getD w.applied.length 0⟩], gen := w.gen + 1 } := by simp [valueW, hnone]
      have hvo : valueOf w e = w.values.getD w.applied.length 0 := by simp [valueOf, hnone]
      have hvs := hw.vs
      have b0 : 1 ≤ maxLen := by simp [maxLen]
      have b1 : w.applied.length + 1 ≤ maxLen := by simp [maxLen]; omega
      have b2 : (w.applied.length + 1) * 32 ≤ 140737488355328 := by omega
      have fin : ∀ (σ1 : Nat → Option AO) (v : Int), v = w.values.getD w.applied.length 0 → σ1 = upd (upd (upd σ c (some (.cells 30 [.str e.name, .int .i64 e.key, .int .i64 e.value]))) K (some (.arr 30 3 (w.gen + 1) (w.applied.map evRow ++ [[.str e.name, .int .i64 e.key, .int .i64 v]])))) N
          (some (.cells 57 [.sl (w.values.map intRow), .int .i64 w.clock, .map M, .sl (w.flight.map msgRow), .os K (w.gen + 1) (w.applied.length + 1)])) → Stays c σ σ1 ∧ cutσ c σ1 = putW σ N M K (valueW w e) := by
        intro σ1 v hv hσ1
        have hc : ([.sl (w.values.map intRow), .int .i64 w.clock, .map M, .sl (w.flight.map msgRow), .os K (w.gen + 1) (w.applied.length + 1)] : List AV) = wireCells (valueW w e) M K := by rw [hvw]; simp [wireCells]
        have ha : AO.arr 30 3 (w.gen + 1) (w.applied.map evRow ++ [[.str e.name, .int .i64 e.key, .int .i64 v]]) = .arr 30 3 (valueW w e).gen ((valueW w e).applied.map evRow) := by rw [hvw, hv]; simp [evRow]
        rw [hc, ha] at hσ1
        subst hσ1
        have hM : ∀ x, upd σ K x M = some (.imap (openEs (valueW w e))) := fun x => by rw [upd_ne _ _ hw.neMK, hw.m, hvw]; rfl
        refine ⟨Stays.old (lt_wire _ hMc hKc) (Stays.old (lt_appl c _) (Stays.new (Nat.le_refl _) (Stays.refl _ _))), ?_⟩
        rw [cutσ_old _ hNc, cutσ_old _ hKc, cutσ_new _ (Nat.le_refl _), hσ]
        unfold putW
        rw [upd_self _ M (hM _)]
      refine Tri.seqX ttok (by simp only [m_put, m_with, m_grow, q9] <;> rfl) (by simp <;> rfl) ?_
      refine Tri.seq (Tri.seqX ttok (by simp only [m_put, m_with, m_grow, q9] <;> rfl) (by simp [q1, q5, hNσ, wireCells] <;> rfl) ?_)
      refine Tri.seqX ttok (by simp only [m_put, m_with, m_grow, q9] <;> rfl) (by simp [q1, q5, hNσ, wireCells] <;> rfl) ?_
      refine Tri.cond (by simp <;> rfl) (fun h => ?_) (fun h => ?_)
      · have hl : w.applied.length < w.values.length := by simpa using h
        have hget : w.values.getD w.applied.length 0 = w.values[w.applied.length]'hl := by simp [List.getD, hl]
        refine Tri.x ttok (by simp only [m_put, m_with, m_grow, q9] <;> rfl) (by simp [q1, q5, hNσ, wireCells, hl, intRow] <;> rfl) ?_
        refine Tri.seqD ttok mix [0, 1, 2, 3, 5, 7, 9, 4, 6, 8, 10, 11, 12, 13, 14, 15] (by kernel_rfl) (by simp only [m_put, m_with, m_grow, q9] <;> rfl) ?_
        simp only [List.filterMap, List.map, List.getElem?_cons_succ, List.getElem?_cons_zero]
        refine OpsA.all (by simp [q1, q5, q6, q7, hNσ, hn, n0, n0.symm, k0, k0.symm, wireCells, hkk, hw.neK, hw.neK.symm, b0, b1, b2] <;> rfl) ?_
        refine Tri.seqX ttok (by simp only [m_put, m_with, m_grow, q9] <;> rfl) (by simp <;> rfl) ?_
        refine Tri.ret (fnPost.tmp (.inr rfl) rfl (by simp [q8]) (by simp <;> rfl) (by exact True.intro) ?_ ⟨?_, ?_⟩)
        · simp only [σ_put, σ_with]
          exact (fin _ _ hget.symm rfl).1
        · rw [hvo, hget]
        · simp only [σ_put, σ_with]
          exact (fin _ _ hget.symm rfl).2
      · have hl : ¬ w.applied.length < w.values.length := by simpa using h
        have hget : w.values.getD w.applied.length 0 = 0 := by simp [List.getD, List.getElem?_eq_none (show w.values.length ≤ w.applied.length by omega)]
        refine Tri.skip ?_
        refine Tri.seqD ttok mix [0, 1, 2, 3, 5, 7, 9, 4, 6, 8, 10, 11, 12, 13, 14, 15] (by kernel_rfl) (by simp only [m_put, m_with, m_grow, q9] <;> rfl) ?_
        simp only [List.filterMap, List.map, List.getElem?_cons_succ, List.getElem?_cons_zero]
        refine OpsA.all (by simp [q1, q5, q6, q7, hNσ, hn, n0, n0.symm, k0, k0.symm, wireCells, hkk, hw.neK, hw.neK.symm, b0, b1, b2] <;> rfl) ?_
        refine Tri.seqX ttok (by simp only [m_put, m_with, m_grow, q9] <;> rfl) (by simp <;> rfl) ?_
        refine Tri.ret (fnPost.tmp (.inr rfl) rfl (by simp [q8]) (by simp <;> rfl) (by exact True.intro) ?_ ⟨?_, ?_⟩)
        · simp only [σ_put, σ_with]
          exact (fin _ _ hget.symm rfl).1
        · rw [hvo, hget]
        · simp only [σ_put, σ_with]
          exact (fin _ _ hget.symm rfl).2
end Go.Proofs.Ytilpklkgmibpgaa
