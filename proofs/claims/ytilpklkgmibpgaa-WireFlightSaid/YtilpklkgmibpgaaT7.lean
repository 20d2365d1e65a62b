import Derived.Test.YtilpklkgmibpgaaT4
namespace Go.Proofs.Ytilpklkgmibpgaa
open Go.Ab
set_option maxHeartbeats 400000
set_option linter.unusedVariables false
set_option linter.unusedSimpArgs false
attribute [local simp] tt3 tt4 tt9 tt22 tt24 tt30 tt31 tt36 tt42 tt55 tt57 tt63
attribute [local simp] eqA sliceEq rowsA fillR appendA AV.lt mapElem lookupA mapPutA mapDelA mapClearA lenA sliceA indexA nth buildA fillA placesA TI.zv

theorem rowsLt_iff {c : Nat} : ∀ {rows : List (List AV)}, rowsLt c rows ↔ ∀ r ∈ rows, listLt c r
  | [] => by simp [rowsLt]
  | r :: rs => by simp [rowsLt, rowsLt_iff (rows := rs)]
theorem rowsLt_drop {c k : Nat} {rows : List (List AV)} (h : rowsLt c rows) : rowsLt c (rows.drop k) := rowsLt_iff.2 fun r hr => rowsLt_iff.1 h r (List.mem_of_mem_drop hr)
theorem rowsLt_splice {c k : Nat} {rows rs : List (List AV)} (h : rowsLt c rows) (h2 : rowsLt c rs) : rowsLt c (splice rows k rs) := rowsLt_iff.2 fun r hr => by
  simp only [splice, List.mem_append] at hr
  rcases hr with (hr | hr) | hr
  · exact rowsLt_iff.1 h r (List.mem_of_mem_take hr)
  · exact rowsLt_iff.1 h2 r hr
  · exact rowsLt_iff.1 h r (List.mem_of_mem_drop hr)
theorem call_delete42 {σ : Nat → Option AO} {n g : Nat} {rows : List (List AV)} {i : Int} (hn : σ n = some (.arr 42 4 g rows)) (hr : rowsOk 4 rows = true) (hi0 : 0 ≤ i) (hi : i < rows.length) (hlen : rows.length ≤ 1000000) :
    CallA Try.prog 42 [.os n g rows.length, .int .i64 i, .int .i64 (i + 1)] σ [] fun x σ' => x = .os n g (rows.length - 1) ∧ ∃ rows', σ' = upd σ n (some (.arr 42 4 g rows')) ∧ rowsOk 4 rows' = true ∧ rows'.take (rows.length - 1) = rows.eraseIdx i.toNat ∧ rows'.length = rows.length := by
  refine CallA.of ttok Try.func42 rfl (show 3 ≤ 33 by decide) fun c hF => ?_
  have hσ : cutσ c σ = σ := cutσ_self fun n hn => (hF.good.2 n hn : σ n = none)
  have hnc : n < c := (hF.σ n _ hn).1
  have hrl : rowsLt c rows := (hF.σ n _ hn).2
  obtain ⟨k, rfl⟩ : ∃ k : Nat, i = k := ⟨i.toNat, by omega⟩
  have hk : k < rows.length := by omega
  have e1 : ((k : Int) + 1).toNat = k + 1 := by omega
  refine Tri.seqX ttok rfl (by simp <;> rfl) ?_
  have hkn : ¬ k = rows.length := by omega
  have hk1 : k + 1 ≤ rows.length := by omega
  have hk2 : k ≤ rows.length := by omega
  have e2 : (0:Int) ≤ (k:Int) + 1 := by omega
  have hsrc : (rows.drop (k + 1)).take (rows.length - (k + 1)) = rows.drop (k + 1) := List.take_of_length_le (by simp)
  have hsl : k + (rows.length - (k + 1)) = rows.length - 1 := by omega
  have hle1 : rows.length - 1 ≤ rows.length := by omega
  have hrd : rowsOk 4 (rows.drop (k + 1)) = true := rowsOk_drop hr
  refine Tri.seqX ttok rfl (by simp [hn, sliceO, boundA, e1, hk, hk1, e2] <;> rfl) ?_
  refine Tri.seq (Tri.seqX ttok rfl (by simp [binA] <;> rfl) ?_)
  refine Tri.cond (by simp <;> rfl) (fun h => ?_) (fun h => ?_)
  · exfalso; simp at h; omega
  refine Tri.skip ?_
  refine Tri.seqX ttok rfl (by simp <;> rfl) ?_
  have mix : Try.prog.follows .mixedOrders = true := by kernel_rfl
  refine Tri.seqD ttok mix [0, 1, 2, 3, 4, 5, 6, 7] (by kernel_rfl) rfl ?_
  simp only [List.filterMap, List.map]
  refine OpsA.all (by simp [hn, sliceO, boundA, e1, hk, hkn, hk1, hk2, e2, srcA, appendIn, hsrc, hrd, hsl, hle1, -splice] <;> rfl) ?_
  obtain ⟨rows', hrows⟩ : ∃ r, r = splice rows k (rows.drop (k + 1)) := ⟨_, rfl⟩
  have hl' : rows'.length = rows.length := by rw [hrows]; simp [splice]; omega
  have hr' : rowsOk 4 rows' = true := by rw [hrows]; simp [splice, hr, hrd]
  have ht' : rows'.take (rows.length - 1) = rows.eraseIdx k := by
    rw [hrows, List.eraseIdx_eq_take_drop_succ, splice, List.take_append_of_le_length (by simp; omega)]
    exact List.take_of_length_le (by simp; omega)
  rw [← hrows]
  have hlt' : rowsLt c rows' := by rw [hrows]; exact rowsLt_splice hrl (rowsLt_drop hrl)
  have hposL : 0 < rows.length := by omega
  have hone1 : rows.length - 1 + 1 = rows.length := by omega
  have hone2 : rows.length - (rows.length - 1) = 1 := by omega
  have fin : ∀ (st : AS), st.ds = [] → st.ev (.tmp 0) = .os n g (rows.length - 1) → st.m = 33 → st.σ = upd σ n (some (.arr 42 4 g (splice rows' (rows.length - 1) [[.bool false, .str [], .int .i64 0, .int .i64 0]]))) →
      Tri none Try.prog (.seq (.region 7 [{ dst := some 32, op := Op.move (.tmp 0), type := 31, pos := "slices.go:234", after := #[], guard := none }, { dst := some 6, op := Op.assign (.tmp 32), type := 31, pos := "slices.go:234", after := #[{ on := 0, ground := .data }, { on := 0, ground := .phase }], guard := none }].toArray false) .ret) st
        (fnPost tt Try.f42 c σ fun x σ' => x = .os n g (rows.length - 1) ∧ ∃ rows', σ' = upd σ n (some (.arr 42 4 g rows')) ∧ rowsOk 4 rows' = true ∧ rows'.take (rows.length - 1) = rows.eraseIdx ((k : Int)).toNat ∧ rows'.length = rows.length) := by
    intro st q1 q2 q3 q4
    refine Tri.seqX ttok (by rw [q3]; rfl) (by simp [q2] <;> rfl) ?_
    refine Tri.ret (fnPost.tmp (.inr rfl) rfl (by simp [q1]) (by simp <;> rfl) (by exact hnc) ?_ ⟨rfl, splice rows' (rows.length - 1) [[.bool false, .str [], .int .i64 0, .int .i64 0]], ?_, ?_, ?_, ?_⟩)
    · simp [q4, -splice]
      exact Stays.old (x := .arr 42 4 g _) (rowsLt_splice hlt' ⟨⟨trivial, trivial, trivial, trivial, trivial⟩, trivial⟩) (Stays.refl _ _)
    · simp [q4, cutσ_old, hnc, hσ, -splice]
    · simp [splice, hr']
    · rw [splice, List.append_assoc, List.take_append_of_le_length (by simp; omega), List.take_take]
      simpa using ht'
    · rw [splice_length _ _ _ (by simp; omega)]; exact hl'
  by_cases h0 : rows.length - 1 = 0
  · have hr1 : rows.length = 1 := by omega
    refine Tri.seqX ttok rfl (by simp [hn, sliceO, boundA, e1, h0, hr1, hl', clearS, asOw, -splice] <;> rfl) ?_
    exact fin _ (by simp) (by simp [hr1]) (by rfl) (by simp [hr1, -splice])
  · refine Tri.seqX ttok rfl (by simp [hn, sliceO, boundA, e1, h0, hl', clearS, asOw, hposL, hone1, hone2, hle1, -splice] <;> rfl) ?_
    exact fin _ (by simp) (by simp) (by rfl) (by simp [-splice])
theorem eraseIdx_map' {α β : Type} (f : α → β) : ∀ (l : List α) (i : Nat), (l.map f).eraseIdx i = (l.eraseIdx i).map f
  | [], _ => rfl
  | a :: l, 0 => rfl
  | a :: l, i + 1 => by simp [eraseIdx_map' f l i]
def dropW (w : Wire) (i : Int) : Wire := if 0 ≤ i ∧ i < w.flight.length then { w with flight := w.flight.eraseIdx i.toNat } else w
theorem call_drop22 {σ : Nat → Option AO} {N M K : Nat} {w : Wire} {i : Int} (hw : IsW σ N M K w) :
    CallA Try.prog 22 [.ptr N 0, .int .i64 i] σ [] fun x σ' => x = .bool (decide (0 ≤ i ∧ i < w.flight.length)) ∧ σ' = putW σ N M K (dropW w i) := by
  refine CallA.of ttok Try.func22 rfl (show 2 ≤ 21 by decide) fun c hF => ?_
  have hσ : cutσ c σ = σ := cutσ_self fun n hn => (hF.good.2 n hn : σ n = none)
  have hn := hw.n
  have hNc : N < c := (hF.σ N _ hn).1
  have hMc : M < c := (hF.σ M _ hw.m).1
  have hKc : K < c := (hF.σ K _ hw.k).1
  have ne1 : N ≠ c := by omega
  refine Tri.fresh ?_
  refine Tri.seqX ttok rfl (by simp <;> rfl) ?_
  refine Tri.seq (Tri.seq (Tri.region ttok rfl ?_))
  refine OpsA.runX 2 (by simp <;> rfl) ?_
  simp only [List.drop]
  refine OpsA.call (call_is39 (i := i) (w := w) (N := N) (M := M) (K := K) hw) rfl (by simp <;> rfl) (by kernel_rfl) (by simp) rfl ?_
  rintro x σ' ⟨rfl, rfl⟩
  refine OpsA.all (by simp <;> rfl) ?_
  by_cases hi : 0 ≤ i ∧ i < w.flight.length
  · refine Tri.cond (b := false) (by simp [hi]) (fun h => by cases h) (fun h => ?_)
    refine Tri.skip ?_
    refine Tri.seqR ttok rfl ?_
    refine OpsA.runX 5 (by simp [hn, wireCells, ne1] <;> rfl) ?_
    simp only [List.drop]
    refine OpsA.call (call_cloneO38 (n := c) (ok_msg w.flight) (by have := hw.fl; simp; omega)) rfl (by simp <;> rfl) (by kernel_rfl) (by simp) rfl ?_
    rintro x σ1 ⟨g, rfl, rfl⟩
    have hwr : IntKind.i64.wrap (i + 1) = i + 1 := wrap_id (by omega) (by have := hw.fl; omega)
    refine OpsA.runX 3 (by simp [hwr] <;> rfl) ?_
    simp only [List.drop]
    refine OpsA.call (call_delete42 (n := c) (g := g) (rows := w.flight.map msgRow) (i := i) (by simp) (ok_msg w.flight) hi.1 (by simpa using hi.2) (by have := hw.fl; simp; omega)) rfl (by simp <;> rfl) (by kernel_rfl) (by simp) rfl ?_
    rintro x σ2 ⟨rfl, rows', rfl, hr1, hr2, hr3⟩
    refine OpsA.all (by simp [hn, wireCells, ne1] <;> rfl) ?_
    have hL : w.flight.length - 1 ≤ rows'.length := by rw [hr3]; simp
    have hfin : ([.sl (w.values.map intRow), .int .i64 w.clock, .map M, .os c g (w.flight.length - 1), .os K w.gen w.applied.length] : List AV).set 3 (.sl (rows'.take (w.flight.length - 1))) = wireCells { w with flight := w.flight.eraseIdx i.toNat } M K := by
      rw [List.length_map] at hr2
      rw [hr2, eraseIdx_map']; rfl
    refine Tri.gh (Gh.freezeO N 3 (T' := 57) (cs := [.sl (w.values.map intRow), .int .i64 w.clock, .map M, .os c g (w.flight.length - 1), .os K w.gen w.applied.length]) (n := c) (g := g) (rows := rows') (e := 4) (T := 42) (len := w.flight.length - 1)
      (by simp) rfl rfl rfl (by simp [ne1.symm]) rfl hL) ?_
    rw [hfin]
    refine Tri.seqX ttok rfl (by simp <;> rfl) ?_
    refine Tri.ret (fnPost.tmp (.inr rfl) rfl rfl (by simp <;> rfl) (by exact True.intro) ?_ ⟨by simp [hi], ?_⟩)
    · simp only [σ_put, σ_with]
      rw [upd_comm _ _ _ ne1, upd_idem, upd_idem]
      exact Stays.old (lt_wire _ hMc hKc) (Stays.new (Nat.le_refl _) (Stays.refl _ _))
    · simp only [σ_put, σ_with]
      rw [upd_comm _ _ _ ne1, upd_idem, upd_idem, cutσ_old _ hNc, cutσ_new _ (Nat.le_refl c), hσ, dropW, if_pos hi]
      exact putW_N hw rfl rfl rfl
  · refine Tri.cond (b := true) (by simp; omega) (fun h => ?_) (fun h => by cases h)
    refine Tri.seqX ttok rfl (by simp <;> rfl) ?_
    refine Tri.ret (fnPost.tmp (.inr rfl) rfl rfl (by simp <;> rfl) (by exact True.intro) ?_ ⟨by simp [hi], ?_⟩)
    · simp; exact Stays.refl _ _
    · simp [hσ, dropW, hi, hw.self]
end Go.Proofs.Ytilpklkgmibpgaa
