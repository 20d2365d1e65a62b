/- Tick: the wire's clock goes on by one; each open key whose time has come is asked again. -/
import Derived.Test.YtilpklkgmibpgaaT19
namespace Go.Proofs.Ytilpklkgmibpgaa
open Go.Ab
set_option maxHeartbeats 400000
set_option linter.unusedVariables false
set_option linter.unusedSimpArgs false
attribute [local simp] tt3 tt4 tt9 tt22 tt24 tt30 tt31 tt36 tt42 tt55 tt57 tt63
attribute [local simp] eqA sliceEq rowsA fillR appendA AV.lt mapElem lookupA mapPutA mapDelA mapClearA lenA sliceA indexA nth buildA fillA placesA TI.zv nilEq fieldOfA
attribute [local simp] List.filter_cons

theorem putW_openM {σ : Nat → Option AO} {N M K : Nat} {w : Wire} {o' : List (Int × Asking)} (hne : N ≠ M) (hnk : N ≠ K) (hmk : M ≠ K) : upd (putW σ N M K w) M (some (.imap (o'.map fun p => (p.1, askAV p.2)))) = putW σ N M K { w with opens := o' } := by
  unfold putW
  rw [upd_comm _ _ _ hne, upd_idem]
  rfl
theorem putW_clock {σ : Nat → Option AO} {N M K : Nat} {w : Wire} {z : Int} (hw : IsW σ N M K w) : upd σ N (some (.cells 57 [.sl (w.values.map intRow), .int .i64 z, .map M, .sl (w.flight.map msgRow), .os K w.gen w.applied.length])) = putW σ N M K { w with clock := z } := by
  unfold putW
  rw [upd_self σ K hw.k]
  show upd σ N _ = upd (upd σ M (some (.imap (openEs w)))) N _
  rw [upd_self σ M hw.m]; rfl

theorem stays_round {σY σR : Nat → Option AO} {N M K cc n : Nat} {lo x : Option AO} {o : Obj} {wi w'' : Wire} (hR : σR = upd σY n (some (.raw o))) (z1 : n ≠ N) (z2 : n ≠ M) (z3 : n ≠ K) (c1 : cc ≠ N) (c2 : cc ≠ M) (c3 : cc ≠ K) (hM : M < cc) (hK : K < cc) (hne : N ≠ M) (hnk : N ≠ K) (hmk : M ≠ K) :
    Stays cc (putW (upd σY n lo) N M K wi) (putW (upd σR cc x) N M K w'') := by
  have e : putW (upd σR cc x) N M K w'' = putW (upd (upd (putW (upd σY n lo) N M K wi) n (some (.raw o))) cc x) N M K w'' := by
    rw [putW_upd z1 z2 z3, upd_idem, ← hR, putW_upd c1 c2 c3, putW_put hne hnk hmk]
  rw [e]
  exact Stays.putW hM hK (Stays.new (Nat.le_refl _) (Stays.old (x := .raw o) trivial (Stays.refl _ _)))
theorem kill_round {σX : Nat → Option AO} {N M K a b : Nat} {r l : Option AO} {w : Wire} (z1 : b ≠ N) (z2 : b ≠ M) (z3 : b ≠ K) (y1 : a ≠ N) (y2 : a ≠ M) (y3 : a ≠ K) (hab : b ≠ a) :
    upd (upd (putW (upd (upd σX a r) b l) N M K w) b none) a none = putW (upd (upd σX a none) b none) N M K w := by
  rw [putW_upd z1 z2 z3, upd_idem, putW_upd y1 y2 y3, upd_comm _ _ _ hab, upd_idem]
theorem call_tick25 {σ : Nat → Option AO} {N M K : Nat} {w : Wire} (hw : IsW σ N M K w) (hk : KeysOk w) (hwt : ∀ p ∈ w.opens, 0 ≤ p.2.wait ∧ p.2.wait ≤ 8) (hf : w.flight.length + w.opens.length ≤ 900000) (hck : w.clock < 1000000) :
    CallA Try.prog 25 [.ptr N 0] σ [] fun x σ' => x = .tup [] ∧ σ' = putW σ N M K (tickW w) := by
  refine CallA.ofM ttok Try.func25 rfl (show 1 ≤ 46 by decide) fun c hF => ?_
  have hσ : cutσ c σ = σ := cutσ_self fun n hn => (hF.good.2 n hn : σ n = none)
  have hn := hw.n
  have hNc : N < c := (hF.σ N _ hn).1
  have hMc : M < c := (hF.σ M _ hw.m).1
  have hKc : K < c := (hF.σ K _ hw.k).1
  have hne := hw.ne
  have hnk := hw.neK
  have hmk := hw.neMK
  refine Tri.fresh (Tri.fresh (Tri.fresh (Tri.fresh ?_)))
  refine Tri.seqX ttok rfl (by simp <;> rfl) ?_
  have d3 : N ≠ c + 3 := by omega
  have u3 : upd σ (c + 3) (some (.cells 24 [.ptr N 0])) N = some (.cells 57 (wireCells w M K)) := by rw [upd_ne _ _ d3]; exact hn
  have e1 : IntKind.i64.wrap (w.clock + 1) = w.clock + 1 := by have := hw.clock; exact wrap_id (by omega) (by omega)
  have d3' : ¬ c + 3 = N := fun e => d3 e.symm
  refine Tri.gh (Le.gh (s' := { t := tl [(1, .ptr (c + 3) 0)], σ := upd σ (c + 3) (some (.cells 24 [.ptr N 0])), c := c + 4, fr := [c + 2, c + 1, c], m := 46, ds := [] }) ⟨LeT.cons (by simp) LeT.nil, by simp, by simp, fun n hn => by
    simp only [List.mem_cons, List.not_mem_nil, or_false] at hn
    simp [List.mem_filter]
    omega, rfl, rfl⟩) ?_
  refine Tri.seqX ttok rfl (by simp [u3, hn, wireCells, e1, d3, d3'] <;> rfl) ?_
  refine Tri.seqR ttok rfl ?_
  refine OpsA.runX 1 (by simp [d3, d3'] <;> rfl) ?_
  simp only [List.drop]
  refine OpsA.call (call_due43 (N := N) (B := c + 2)) rfl (by simp <;> rfl) (by kernel_rfl) (by simp) (show _ = [c + 1, c] by
    simp [List.filter_cons, show ¬ c + 1 = c + 2 by omega]) ?_
  rintro x σ' ⟨rfl, rfl⟩
  refine OpsA.nil ?_
  obtain ⟨w1, hw1⟩ : ∃ w1, ({ w with clock := w.clock + 1 } : Wire) = w1 := ⟨_, rfl⟩
  obtain ⟨σX, hσX⟩ : ∃ σX, upd (upd σ (c + 3) (some (.cells 24 [.ptr N 0]))) (c + 2) (some (.cells 24 [.ptr N 0])) = σX := ⟨_, rfl⟩
  have hwX : IsW (upd σ (c + 3) (some (.cells 24 [.ptr N 0]))) N M K w := ⟨u3, by rw [upd_ne _ _ (show M ≠ c + 3 by omega)]; exact hw.m, by rw [upd_ne _ _ (show K ≠ c + 3 by omega)]; exact hw.k, hw.vs, hw.fl, hw.ap, hw.clock⟩
  refine Tri.gh (Le.gh (s' := { t := tl [(1, .ptr (c + 3) 0), (13, .fn (.func 55) [] [.ptr (c + 2) 0])], σ := putW σX N M K w1, c := c + 4, fr := [c + 1, c], m := 46, ds := [] }) ⟨LeT.cons (by simp) (LeT.cons (by simp) LeT.nil), ?_, by simp, by simp, rfl, rfl⟩) ?_
  · simp only [σ_put, σ_with, start_σ, σ_grow]
    rw [← hσX, ← hw1, putW_clock hwX, ← putW_upd (show c + 2 ≠ N by omega) (show c + 2 ≠ M by omega) (show c + 2 ≠ K by omega)]
  have hX3 : σX (c + 3) = some (.cells 24 [.ptr N 0]) := by rw [← hσX, upd_ne _ _ (show c + 3 ≠ c + 2 by omega), upd_same]
  have hX2 : σX (c + 2) = some (.cells 24 [.ptr N 0]) := by rw [← hσX, upd_same]
  have hk1 : KeysOk w1 := by rw [← hw1]; exact ⟨hk.nodup, hk.wf, hk.len⟩
  have hwt1 : ∀ p ∈ w1.opens, 0 ≤ p.2.wait ∧ p.2.wait ≤ 8 := by rw [← hw1]; exact hwt
  have hb1 : w1.values.length ≤ 1000000 ∧ w1.flight.length ≤ 900000 ∧ w1.applied.length ≤ 900000 ∧ 0 ≤ w1.clock ∧ w1.clock ≤ 1000000 ∧ w1.flight.length + w1.opens.length ≤ 900000 := by
    rw [← hw1]
    exact ⟨hw.vs, hw.fl, hw.ap, by have := hw.clock; simp only; omega, by simp only; omega, hf⟩
  have hIs : ∀ σ', IsW (putW σ' N M K w1) N M K w1 := fun σ' => IsW.put hne hnk hmk hb1.1 hb1.2.1 hb1.2.2.1 ⟨hb1.2.2.2.1, hb1.2.2.2.2.1⟩
  have hsl : (sortedKeys w1).length = w1.opens.length := sortedKeys_length
  refine Tri.block ?_
  refine Tri.rangeFunc (c + 1) c (k := 55) (fs := []) (cs := [.ptr (c + 2) 0]) (Ns := []) (Qc := fun lo x σ' => x = .tup [] ∧ σ' = putW (upd (upd σX c (some (.raw (.deferred (some []))))) (c + 1) (some lo)) N M K (tickAll w1 (sortedKeys w1))) (by simp) (by simp) (by omega) (by simp) (by kernel_rfl)
    (tlist [(1, .ptr (c + 3) 0)] 46) (tlist_length _ _) (tlist_wk (LeT.cons (by simp) LeT.nil)) ?_ (by simp) ?_
  · simp only [List.nil_append, List.cons_append, putW_upd (show c ≠ N by omega) (show c ≠ M by omega) (show c ≠ K by omega), putW_upd (show c + 1 ≠ N by omega) (show c + 1 ≠ M by omega) (show c + 1 ≠ K by omega)]
    refine CallA.mono (call_due55 (nl := c + 1) (w := w1) (hIs _) hk1 hwt1 (B := c + 2) ?_ ?_) fun x σ' ⟨h1, h2⟩ => ⟨h1, h2.trans (putW_put hne hnk hmk)⟩
    · rw [putW_other (show c + 2 ≠ N by omega) (show c + 2 ≠ M by omega) (show c + 2 ≠ K by omega), upd_ne _ _ (show c + 2 ≠ c + 1 by omega), upd_ne _ _ (show c + 2 ≠ c by omega)]; exact hX2
    · intro i k a hi hik ha hd tok
      rw [putW_put hne hnk hmk]
      generalize hwi : tickAll w1 ((sortedKeys w1).take i) = wi at *
      obtain ⟨σY, hσY⟩ : ∃ σY, upd σX c (some (.raw (.deferred (some [])))) = σY := ⟨_, rfl⟩
      simp only [hσY]
      have hY3 : σY (c + 3) = some (.cells 24 [.ptr N 0]) := by rw [← hσY, upd_ne _ _ (show c + 3 ≠ c by omega)]; exact hX3
      have z1 : c + 1 ≠ N := by omega
      have z2 : c + 1 ≠ M := by omega
      have z3 : c + 1 ≠ K := by omega
      refine RoundA.mono (RoundA.of (n := c + 1) (ps := [14]) (nd := c) (t := tlist [(1, .ptr (c + 3) 0)] 46) (Q := fun j s => j = none ∧ ∃ o, s = putW (upd σY (c + 1) o) N M K (again wi k a)) ((putW_other z1 z2 z3).trans (upd_same _ _ _)) rfl (by simp [tlist_length]) ?_) ?_
      · intro cc r rec hFr
        have hc3 : c + 3 < cc := (hFr.σ (c + 3) _ (by
          show upd (putW (upd σY (c + 1) _) N M K wi) (c + 1) _ (c + 3) = _
          rw [upd_ne _ _ (show c + 3 ≠ c + 1 by omega), putW_other (show c + 3 ≠ N by omega) (show c + 3 ≠ M by omega) (show c + 3 ≠ K by omega), upd_ne _ _ (show c + 3 ≠ c + 1 by omega)]
          exact hY3)).1
        rw [startR_tl (by simp)]
        refine Tri.x ttok rfl (by simp [setPs] <;> rfl) ⟨by simp, fun rec' => ?_⟩
        obtain ⟨σR, hσR⟩ : ∃ σR, upd σY (c + 1) (some (.raw (.loop rec'))) = σR := ⟨_, rfl⟩
        refine Tri.gh (Le.gh (s' := { t := tl [(1, .ptr (c + 3) 0), (2, .int .i64 k)], σ := putW σR N M K wi, c := cc, fr := [], m := 46, ds := [] }) ⟨LeT.cons (by simp [setPs]) (LeT.cons (by simp [setPs]) LeT.nil), ?_, by simp, by simp, rfl, rfl⟩) ?_
        · simp only [σ_put, σ_with, putW_upd z1 z2 z3, upd_idem, hσR]
        have hR3 : ∀ w', putW σR N M K w' (c + 3) = some (.cells 24 [.ptr N 0]) := fun w' => by
          rw [putW_other (show c + 3 ≠ N by omega) (show c + 3 ≠ M by omega) (show c + 3 ≠ K by omega), ← hσR, upd_ne _ _ (show c + 3 ≠ c + 1 by omega)]; exact hY3
        obtain ⟨j, hj⟩ := fnd_getO ha
        have hj' : fnd k (openEs wi) = some (j, askAV a) := hj
        have hwa := tok.wt _ (getO_in ha)
        simp only at hwa
        have f1 : IntKind.i64.wrap (2 * a.wait) = 2 * a.wait := wrap_id (by omega) (by omega)
        have f2 : (if 8 < 2 * a.wait then 8 else 2 * a.wait) = min (2 * a.wait) 8 := by split <;> omega
        have hcl : wi.clock = w1.clock := tok.ck
        have f3 : IntKind.i64.wrap (wi.clock + min (2 * a.wait) 8) = wi.clock + min (2 * a.wait) 8 := wrap_id (by omega) (by omega)
        have v1 := fun (σ' : Nat → Option AO) (w' : Wire) (x : Option AO) => putW_upd (σ := σ') (w' := w') (x := x) (k := cc) (show cc ≠ N by omega) (show cc ≠ M by omega) (show cc ≠ K by omega)
        have v2 := fun (σ' : Nat → Option AO) (w' : Wire) => putW_other (σ := σ') (w' := w') (n := cc) (show cc ≠ N by omega) (show cc ≠ M by omega) (show cc ≠ K by omega)
        have v3 := fun (σ' : Nat → Option AO) (w' : Wire) => putW_other (σ := σ') (w' := w') (n := c + 3) (show c + 3 ≠ N by omega) (show c + 3 ≠ M by omega) (show c + 3 ≠ K by omega)
        have v4 := fun (σ' : Nat → Option AO) (w' : Wire) => putW_atN (σ := σ') (w' := w') (N := N) (M := M) (K := K)
        have v5 := fun (σ' : Nat → Option AO) (w' : Wire) => putW_atM (σ := σ') (w' := w') (K := K) hne
        have c3R : σR (c + 3) = some (.cells 24 [.ptr N 0]) := by rw [← hσR, upd_ne _ _ (show c + 3 ≠ c + 1 by omega)]; exact hY3
        have n3 : c + 3 ≠ cc := by omega
        refine Tri.fresh ?_
        refine Tri.block ?_
        refine Tri.seqX ttok rfl (by simp [v1, v2, v3, v4, v5, c3R, n3, wireCells, hj', askAV] <;> rfl) ?_
        refine Tri.seqX ttok rfl (by simp [v1, v2, v3, v4, v5, c3R, n3, wireCells, f1, f2] <;> rfl) ?_
        refine Tri.seqD ttok mix [4, 5, 11, 13, 0, 1, 2, 3, 6, 7, 8, 9, 10, 12, 14, 15] (by kernel_rfl) rfl ?_
        simp only [List.filterMap, List.map, List.getElem?_cons_succ, List.getElem?_cons_zero]
        have hput := putM_setO (k := k) (a := ⟨a.name, wi.clock + min (2 * a.wait) 8, min (2 * a.wait) 8⟩) wi.opens
        have hput' : putM k (.agg [.str a.name, .int .i64 (wi.clock + min (2 * a.wait) 8), .int .i64 (min (2 * a.wait) 8)]) (openEs wi) = (setO k ⟨a.name, wi.clock + min (2 * a.wait) 8, min (2 * a.wait) 8⟩ wi.opens).map fun p => (p.1, askAV p.2) := hput
        have hop := fun (σ' : Nat → Option AO) => putW_openM (σ := σ') (w := wi) (o' := setO k ⟨a.name, wi.clock + min (2 * a.wait) 8, min (2 * a.wait) 8⟩ wi.opens) hne hnk hmk
        refine OpsA.all (by simp [v1, v2, v3, v4, v5, c3R, n3, wireCells, f1, f2, f3, hput', hop] <;> rfl) ?_
        refine Tri.region ttok rfl ?_
        refine OpsA.runX 5 (by simp [v1, v2, v3, v4, v5, c3R, n3, wireCells, f1, f2, f3] <;> rfl) ?_
        simp only [List.drop]
        have hfl := tok.fl
        refine OpsA.call (call_fly37 (b := false) (e := ⟨a.name, k, 0⟩) (w := { wi with opens := setO k ⟨a.name, wi.clock + min (2 * a.wait) 8, min (2 * a.wait) 8⟩ wi.opens }) (IsW.put hne hnk hmk ?_ ?_ ?_ ?_)) rfl (by simp [evAV] <;> rfl) (by kernel_rfl) (by simp) rfl ?_
        · simp only [tok.vs]; exact hb1.1
        · simp only; omega
        · simp only [tok.ap]; exact hb1.2.2.1
        · simp only [tok.ck]; exact ⟨hb1.2.2.2.1, hb1.2.2.2.2.1⟩
        rintro x σ' ⟨rfl, rfl⟩
        refine OpsA.nil ?_
        try simp only [thenQ, blockQ]
        have hMcc : M < cc := by omega
        have hKcc : K < cc := by omega
        have hNcc : N < cc := by omega
        have hRn : ∀ n, cc ≤ n → σR n = none := fun n hnn => by
          have := hFr.good.2 n hnn
          replace this : upd (putW (upd σY (c + 1) _) N M K wi) (c + 1) _ n = none := this
          rw [upd_ne _ _ (show n ≠ c + 1 by omega), putW_other (show n ≠ N by omega) (show n ≠ M by omega) (show n ≠ K by omega), upd_ne _ _ (show n ≠ c + 1 by omega)] at this
          rw [← hσR, upd_ne _ _ (show n ≠ c + 1 by omega)]; exact this
        refine ⟨none, rfl, _, Gh.refl _, ?_, ?_, rfl, ?_⟩
        · simp only [σ_put, σ_with, putW_put hne hnk hmk]
          rw [putW_other z1 z2 z3, upd_ne _ _ (show c + 1 ≠ cc by omega), ← hσR, upd_same]
        · simp only [σ_put, σ_with, putW_put hne hnk hmk]
          exact stays_round hσR.symm z1 z2 z3 (by omega) (by omega) (by omega) hMcc hKcc hne hnk hmk
        · simp only [σ_put, σ_with, putW_put hne hnk hmk]
          rw [cut_putW hNcc hMcc hKcc, cutσ_new _ (Nat.le_refl _), cutσ_self hRn]
          exact ⟨_, by rw [← hσR]; rfl⟩
      · rintro x σ' ⟨j, s, ⟨rfl, o, rfl⟩, rfl, rfl⟩
        refine ⟨rfl, ?_⟩
        rw [putW_upd z1 z2 z3, upd_idem, putW_put hne hnk hmk]
        rfl
  · rintro x σ' ⟨rfl, rfl⟩
    have z1 : c + 1 ≠ N := by omega
    have z2 : c + 1 ≠ M := by omega
    have z3 : c + 1 ≠ K := by omega
    have y1 : c ≠ N := by omega
    have y2 : c ≠ M := by omega
    have y3 : c ≠ K := by omega
    refine ⟨none, (putW_other z1 z2 z3).trans (upd_same _ _ _), ?_⟩
    try simp only [thenQ, blockQ]
    refine ⟨_, Gh.refl _, .inl rfl, fun m hm => ?_, by simp, [], rfl, trivial, ?_, ?_⟩
    · simp only [List.mem_singleton] at hm
      subst hm
      show upd (putW _ N M K _) (m + 1) none m = _
      rw [upd_ne _ _ (show m ≠ m + 1 by omega), putW_other y1 y2 y3, upd_ne _ _ (show m ≠ m + 1 by omega), upd_same]
    · simp only [killL_one]
      rw [kill_round z1 z2 z3 y1 y2 y3 (by omega)]
      refine Stays.putW hMc hKc (Stays.none (Stays.none ?_))
      rw [← hσX]
      exact Stays.new (by omega) (Stays.new (by omega) (Stays.refl _ _))
    · refine ⟨rfl, ?_⟩
      simp only [killL_one]
      rw [kill_round z1 z2 z3 y1 y2 y3 (by omega), cut_putW hNc hMc hKc, cutσ_new _ (by omega), cutσ_new _ (by omega), ← hσX, cutσ_new _ (by omega), cutσ_new _ (by omega), hσ, ← hw1]
      rfl
end Go.Proofs.Ytilpklkgmibpgaa
