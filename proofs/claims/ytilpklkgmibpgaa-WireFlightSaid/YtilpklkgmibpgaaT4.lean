import Derived.Test.YtilpklkgmibpgaaT3
namespace Go.Proofs.Ytilpklkgmibpgaa
open Go.Ab
set_option maxHeartbeats 400000
set_option linter.unusedVariables false
set_option linter.unusedSimpArgs false
attribute [local simp] tt3 tt4 tt9 tt22 tt24 tt30 tt31 tt36 tt42 tt55 tt57 tt63
attribute [local simp] eqA sliceEq rowsA fillR appendA AV.lt mapElem lookupA mapPutA mapDelA mapClearA lenA sliceA indexA nth buildA fillA placesA
attribute [local simp] drawOk

theorem mix : Try.prog.follows .mixedOrders = true := by kernel_rfl

def evAV (e : Ev) : AV := .agg [.str e.name, .int .i64 e.key, .int .i64 e.value]

theorem putW_N {σ : Nat → Option AO} {N M K : Nat} {w w' : Wire} (hw : IsW σ N M K w) (h : w'.opens = w.opens) (h2 : w'.applied = w.applied) (h3 : w'.gen = w.gen) : upd σ N (some (.cells 57 (wireCells w' M K))) = putW σ N M K w' := by
  unfold putW
  rw [h2, h3, upd_self σ K hw.k, upd_self σ M]
  rw [hw.m]; simp [openEs, h]
theorem IsW.put {σ : Nat → Option AO} {N M K : Nat} {w' : Wire} (hne : N ≠ M) (hnk : N ≠ K) (hmk : M ≠ K) (h1 : w'.values.length ≤ 1000000) (h2 : w'.flight.length ≤ 900000) (h3 : w'.applied.length ≤ 900000) (h4 : 0 ≤ w'.clock ∧ w'.clock ≤ 1000000) : IsW (putW σ N M K w') N M K w' :=
  ⟨upd_same _ _ _, by unfold putW; rw [upd_ne _ _ hne.symm, upd_same], by unfold putW; rw [upd_ne _ _ hnk.symm, upd_ne _ _ hmk.symm, upd_same], h1, h2, h3, h4⟩
theorem putW_other {σ : Nat → Option AO} {N M K n : Nat} {w' : Wire} (h1 : n ≠ N) (h2 : n ≠ M) (h3 : n ≠ K) : putW σ N M K w' n = σ n := by unfold putW; rw [upd_ne _ _ h1, upd_ne _ _ h2, upd_ne _ _ h3]
theorem putW_atN {σ : Nat → Option AO} {N M K : Nat} {w' : Wire} : putW σ N M K w' N = some (.cells 57 (wireCells w' M K)) := upd_same _ _ _
theorem putW_atM {σ : Nat → Option AO} {N M K : Nat} {w' : Wire} (hne : N ≠ M) : putW σ N M K w' M = some (.imap (openEs w')) := by unfold putW; rw [upd_ne _ _ hne.symm, upd_same]
theorem putW_atK {σ : Nat → Option AO} {N M K : Nat} {w' : Wire} (hne : N ≠ K) (hmk : M ≠ K) : putW σ N M K w' K = some (.arr 30 3 w'.gen (w'.applied.map evRow)) := by unfold putW; rw [upd_ne _ _ hne.symm, upd_ne _ _ hmk.symm, upd_same]
theorem putW_updM {σ : Nat → Option AO} {N M K : Nat} {w' : Wire} {x : Option AO} (h : M ≠ K) : putW (upd σ M x) N M K w' = putW σ N M K w' := by unfold putW; rw [upd_comm _ _ _ h, upd_idem]
theorem putW_updK {σ : Nat → Option AO} {N M K : Nat} {w' : Wire} {x : Option AO} : putW (upd σ K x) N M K w' = putW σ N M K w' := by unfold putW; rw [upd_idem]
theorem putW_updN {σ : Nat → Option AO} {N M K : Nat} {w' : Wire} {x : Option AO} (h1 : N ≠ M) (h2 : N ≠ K) : putW (upd σ N x) N M K w' = putW σ N M K w' := by unfold putW; rw [upd_comm _ _ _ h2, upd_comm _ _ _ h1, upd_idem]
theorem putW_put {σ : Nat → Option AO} {N M K : Nat} {w w' : Wire} (hne : N ≠ M) (hnk : N ≠ K) (hmk : M ≠ K) : putW (putW σ N M K w) N M K w' = putW σ N M K w' := by
  conv => lhs; arg 1; unfold putW
  rw [putW_updN hne hnk, putW_updM hmk, putW_updK]
theorem cut_putW {σ : Nat → Option AO} {N M K c : Nat} {w' : Wire} (h1 : N < c) (h2 : M < c) (h3 : K < c) : cutσ c (putW σ N M K w') = putW (cutσ c σ) N M K w' := by unfold putW; rw [cutσ_old _ h1, cutσ_old _ h2, cutσ_old _ h3]
theorem putW_upd {σ : Nat → Option AO} {N M K k : Nat} {w' : Wire} {x : Option AO} (h1 : k ≠ N) (h2 : k ≠ M) (h3 : k ≠ K) : upd (putW σ N M K w') k x = putW (upd σ k x) N M K w' := by
  unfold putW
  rw [upd_comm _ _ _ h1.symm, upd_comm _ _ _ h2.symm, upd_comm _ _ _ h3.symm]
theorem Stays.putW {σ0 σ : Nat → Option AO} {N M K c : Nat} {w' : Wire} (h2 : M < c) (h3 : K < c) (h : Stays c σ0 σ) : Stays c σ0 (putW σ N M K w') := Stays.old (lt_wire _ h2 h3) (Stays.old (lt_open c _) (Stays.old (lt_appl c _) h))

theorem call_applied20 {σ : Nat → Option AO} {N M K : Nat} {w : Wire} (hw : IsW σ N M K w) : CallA Try.prog 20 [.ptr N 0] σ [] fun x σ' => x = .sl (w.applied.map evRow) ∧ σ' = σ := by
  refine CallA.of ttok Try.func20 rfl (show 1 ≤ 8 by decide) fun c hF => ?_
  have hσ : cutσ c σ = σ := cutσ_self fun n hn => (hF.good.2 n hn : σ n = none)
  have hn := hw.n
  refine Tri.seqX ttok rfl (by simp <;> rfl) ?_
  refine Tri.seq (Tri.region ttok rfl ?_)
  refine OpsA.runX 4 (by simp [hn, wireCells] <;> rfl) ?_
  simp only [List.drop]
  refine OpsA.call (call_cloneS41 (n := K) (g := w.gen) (rows := w.applied.map evRow) (by simpa using hw.k) (ok_ev w.applied) (by have := hw.ap; simp; omega)) rfl (by simp <;> rfl) (by kernel_rfl) (by simp) rfl ?_
  rintro x σ' ⟨rfl, rfl⟩
  refine OpsA.all (by simp <;> rfl) ?_
  exact Tri.ret (fnPost.tmp (.inr rfl) rfl rfl (by simp <;> rfl) (by exact lt_ev c _) (by simp; exact Stays.refl _ _) ⟨rfl, by simpa using hσ⟩)

theorem call_fly37 {σ : Nat → Option AO} {N M K : Nat} {w : Wire} {b : Bool} {e : Ev} (hw : IsW σ N M K w) :
    CallA Try.prog 37 [.ptr N 0, .bool b, evAV e] σ [] fun x σ' => x = .tup [] ∧ σ' = putW σ N M K { w with flight := w.flight ++ [⟨b, e⟩] } := by
  refine CallA.of ttok Try.func37 rfl (show 3 ≤ 19 by decide) fun c hF => ?_
  have hσ : cutσ c σ = σ := cutσ_self fun n hn => (hF.good.2 n hn : σ n = none)
  have hn := hw.n
  have hNc : N < c := (hF.σ N _ hn).1
  have hMc : M < c := (hF.σ M _ hw.m).1
  have hKc : K < c := (hF.σ K _ hw.k).1
  have ne1 : N ≠ c := by omega
  have ne2 : N ≠ c + 1 := by omega
  refine Tri.fresh (Tri.fresh ?_)
  refine Tri.seq (Tri.region ttok rfl ?_)
  refine OpsA.new c rfl (by simp [evAV] <;> rfl) (by simp) (by simp <;> rfl) ?_
  refine OpsA.nil ?_
  refine Tri.drawn' ttok mix [0, 1, 2, 3, 4, 6] 8 rfl (by kernel_rfl) rfl ?_
  simp only [List.filterMap, List.map]
  refine OpsA.all (by simp [hn, wireCells, ne1] <;> rfl) ?_
  have hcl := fun (σ' : Nat → Option AO) => call_cloneO38 (σ := σ') (n := c + 1) (ok_msg w.flight) (by have := hw.fl; simp; omega)
  have ok1 : rowsOk 4 [msgRow ⟨b, e⟩] = true := ok_msg [⟨b, e⟩]
  have hfl := hw.fl
  have b0 : 1 ≤ maxLen := by simp [maxLen]
  have b1 : w.flight.length + 1 ≤ maxLen := by simp [maxLen]; omega
  have b2 : (w.flight.length + 1) * 40 ≤ 140737488355328 := by omega
  have fin : ∀ (st : AS) (g : Nat), st.ds = [] → st.σ = upd (upd (upd σ c (some (.cells 30 [AV.str e.name, AV.int IntKind.i64 e.key, AV.int IntKind.i64 e.value]))) (c + 1) (some (.arr 42 4 g (w.flight.map msgRow ++ [msgRow ⟨b, e⟩])))) N
        (some (.cells 57 [.sl (w.values.map intRow), .int .i64 w.clock, .map M, .os (c + 1) g (w.flight.length + 1), .os K w.gen w.applied.length])) →
      fnPost tt Try.f37 c σ (fun x σ' => x = .tup [] ∧ σ' = putW σ N M K { w with flight := w.flight ++ [⟨b, e⟩] }) .normal st := fun st g q0 q1 => by
    refine fnPost.gh (Gh.freezeO N 3 (T' := 57) (cs := [.sl (w.values.map intRow), .int .i64 w.clock, .map M, .os (c + 1) g (w.flight.length + 1), .os K w.gen w.applied.length]) (n := c + 1) (g := g) (rows := w.flight.map msgRow ++ [msgRow ⟨b, e⟩]) (e := 4) (T := 42) (len := w.flight.length + 1)
      (by rw [q1, upd_same]) rfl rfl rfl (by rw [q1, upd_ne _ _ (show c + 1 ≠ N by omega), upd_same]) rfl (by simp)) ?_
    have htk : (w.flight.map msgRow ++ [msgRow ⟨b, e⟩]).take (w.flight.length + 1) = (w.flight ++ [(⟨b, e⟩ : Msg)]).map msgRow := by
      rw [List.take_of_length_le (by simp)]; simp
    have hcs : ([.sl (w.values.map intRow), .int .i64 w.clock, .map M, .os (c + 1) g (w.flight.length + 1), .os K w.gen w.applied.length] : List AV).set 3 (.sl ((w.flight.map msgRow ++ [msgRow ⟨b, e⟩]).take (w.flight.length + 1))) = wireCells { w with flight := w.flight ++ [⟨b, e⟩] } M K := by
      rw [htk]; rfl
    rw [hcs, q1, upd_comm _ _ _ ne2, upd_idem, upd_idem]
    refine fnPost.none (.inl rfl) rfl q0 (Stays.old (lt_wire _ hMc hKc) (Stays.new (Nat.le_succ _) (Stays.new (Nat.le_refl _) (Stays.refl _ _)))) ⟨rfl, ?_⟩
    show cutσ c (upd (upd (upd σ c _) (c + 1) none) N _) = _
    rw [cutσ_old _ hNc, cutσ_new _ (Nat.le_succ c), cutσ_new _ (Nat.le_refl c), hσ]
    exact putW_N hw rfl rfl rfl
  refine AnyA.branch2 5 7 (by kernel_rfl) rfl rfl ?_ ?_
  · refine OpsA.call (hcl _) rfl (by simp <;> rfl) (by kernel_rfl) (by simp) rfl ?_
    rintro x σ' ⟨g, rfl, rfl⟩
    refine OpsA.nil ?_
    refine AnyA.rest [7, 8, 9, 10, 11, 12, 13] rfl (by kernel_rfl) (by kernel_rfl) ?_
    simp only [List.filterMap, List.map]
    refine OpsA.all (by simp [hn, wireCells, ne1, ne2, b0, b1, b2, hfl] <;> rfl) ?_
    exact fin _ (g + 1) (by simp) (by simp [msgRow])
  · refine OpsA.all (by simp [hn, wireCells, ne1, ne2, b0, b1, b2, hfl] <;> rfl) ?_
    refine AnyA.step 8 rfl (by kernel_rfl) ?_
    refine OpsA.all (by simp [hn, wireCells, ne1, ne2, b0, b1, b2, hfl] <;> rfl) ?_
    refine AnyA.branch2 5 9 (by kernel_rfl) rfl rfl ?_ ?_
    · refine OpsA.call (hcl _) rfl (by simp <;> rfl) (by kernel_rfl) (by simp) rfl ?_
      rintro x σ' ⟨g, rfl, rfl⟩
      refine OpsA.nil ?_
      refine AnyA.rest [9, 10, 11, 12, 13] rfl (by kernel_rfl) (by kernel_rfl) ?_
      simp only [List.filterMap, List.map]
      refine OpsA.all (by simp [hn, wireCells, ne1, ne2, b0, b1, b2, hfl] <;> rfl) ?_
      exact fin _ (g + 1) (by simp) (by simp [msgRow])
    · refine OpsA.all (by simp [hn, wireCells, ne1, ne2, b0, b1, b2, hfl] <;> rfl) ?_
      refine AnyA.branch [5] (by kernel_rfl) (by simp) fun i hi => ?_
      simp only [List.mem_cons, List.not_mem_nil, or_false] at hi
      subst hi
      refine ⟨_, rfl, ?_⟩
      show OpsA _ _ _ [_] _ _
      refine OpsA.call (hcl _) rfl (by simp <;> rfl) (by kernel_rfl) (by simp) rfl ?_
      rintro x σ' ⟨g, rfl, rfl⟩
      refine OpsA.nil ?_
      refine AnyA.rest [10, 11, 12, 13] rfl (by kernel_rfl) (by kernel_rfl) ?_
      simp only [List.filterMap, List.map]
      refine OpsA.all (by simp [hn, wireCells, ne1, ne2, b0, b1, b2, hfl] <;> rfl) ?_
      exact fin _ (g + 1) (by simp) (by simp [msgRow])
end Go.Proofs.Ytilpklkgmibpgaa
