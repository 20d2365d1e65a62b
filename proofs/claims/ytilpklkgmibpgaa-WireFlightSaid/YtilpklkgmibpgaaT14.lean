import Derived.Test.YtilpklkgmibpgaaT10
import Derived.Test.YtilpklkgmibpgaaAb16
namespace Go.Proofs.Ytilpklkgmibpgaa
open Go.Ab
set_option maxHeartbeats 400000
set_option linter.unusedVariables false
set_option linter.unusedSimpArgs false
attribute [local simp] tt3 tt4 tt9 tt22 tt24 tt30 tt31 tt36 tt42 tt55 tt57 tt63
attribute [local simp] eqA sliceEq rowsA fillR appendA AV.lt mapElem lookupA mapPutA mapDelA mapClearA lenA sliceA indexA nth buildA fillA placesA TI.zv nilEq
attribute [local simp] List.filter_cons

def pay : List UInt8 := [112, 97, 121]
theorem within_bounds (a : Int) {n : Int} (hn : 0 < n) : 0 ≤ within a n ∧ within a n < n := by
  have := tmod_bounds a hn
  unfold within
  split <;> omega

structure OInv (w : Wire) (i : Nat) : Prop where
  nd : (w.opens.map (·.1)).Nodup
  bd : ∀ p ∈ w.opens, 0 ≤ p.1 ∧ p.1 < 12
  fl : w.flight.length = w.opens.length
  le : w.opens.length ≤ i
  ck : w.clock = 0
  ap : w.applied = []
  vs : w.values = []
theorem hasO_mem {w : Wire} {k : Int} : hasO w k = true ↔ k ∈ w.opens.map (·.1) := by
  simp only [hasO, List.any_eq_true, List.mem_map, decide_eq_true_eq]
theorem OInv.ask {w : Wire} {i : Nat} (h : OInv w i) (k : Int) (hk : 0 ≤ k ∧ k < 12) : OInv (askW w ⟨pay, k, 0⟩) (i + 1) := by
  unfold askW
  split
  · exact ⟨h.nd, h.bd, h.fl, by have := h.le; omega, h.ck, h.ap, h.vs⟩
  · rename_i hh
    have hh : ¬ k ∈ w.opens.map (·.1) := fun e => hh (hasO_mem.2 e)
    refine ⟨?_, ?_, by simp [h.fl], by have := h.le; simp; omega, h.ck, h.ap, h.vs⟩
    · simp only [List.map_append, List.map_cons, List.map_nil]
      refine List.nodup_append.2 ⟨h.nd, by simp, fun a ha b hb => ?_⟩
      simp at hb; subst hb
      rintro rfl; exact hh ha
    · intro p hp
      rcases List.mem_append.1 hp with hp | hp
      · exact h.bd p hp
      · simp at hp; subst hp; exact hk
theorem OInv.keys {w : Wire} {i : Nat} (h : OInv w i) (hi : i ≤ 30) : KeysOk w := ⟨h.nd, fun p hp => by have := h.bd p hp; omega, by have := h.le; omega⟩
theorem OInv.isW {w : Wire} {i : Nat} (h : OInv w i) (hi : i ≤ 30) {N M K : Nat} (h1 : N ≠ M) (h2 : N ≠ K) (h3 : M ≠ K) (σ : Nat → Option AO) : IsW (putW σ N M K w) N M K w :=
  IsW.put h1 h2 h3 (by rw [h.vs]; simp) (by rw [h.fl]; have := h.le; omega) (by rw [h.ap]; simp) (by rw [h.ck]; omega)
theorem sorted_lt {w : Wire} (h : (w.opens.map (·.1)).Nodup) {j : Nat} {a b : Int} (ha : (sortedKeys w)[j]? = some a) (hb : (sortedKeys w)[j + 1]? = some b) : a < b := by
  have hs : (sortedKeys w).Pairwise (fun x y => decide (x ≤ y) = true) := List.pairwise_mergeSort (fun a b c h1 h2 => by simp at *; omega) (fun a b => by simp; omega) _
  have hn : (sortedKeys w).Nodup := (List.mergeSort_perm _ _).nodup_iff.2 h
  obtain ⟨h1, e1⟩ := List.getElem?_eq_some_iff.1 ha
  obtain ⟨h2, e2⟩ := List.getElem?_eq_some_iff.1 hb
  have k1 := List.pairwise_iff_getElem.1 hs j (j + 1) h1 h2 (by omega)
  have k2 := List.pairwise_iff_getElem.1 hn j (j + 1) h1 h2 (by omega)
  rw [e1, e2] at k1 k2
  simp at k1
  omega
theorem sortedKeys_length {w : Wire} : (sortedKeys w).length = w.opens.length := by simp [sortedKeys]

def w00 : Wire := ⟨[], 0, [], [], [], 0⟩
theorem OInv.zero : OInv w00 0 := ⟨by simp [w00], by simp [w00], rfl, Nat.le_refl _, rfl, rfl, rfl⟩

theorem call_law3 {vs : List Int} : CallA Try.prog 3 [.sl (vs.map intRow)] (fun _ => none) [] fun x _ => x = .bool true := by
  refine CallA.of ttok Try.func3 rfl (show 1 ≤ 73 by decide) fun c hF => ?_
  refine Tri.fresh (Tri.fresh (Tri.fresh ?_))
  refine Tri.seqX ttok rfl (by simp <;> rfl) ?_
  refine Tri.seq ?_
  refine Tri.seqR ttok rfl ?_
  refine OpsA.call (call_known13) rfl (by simp <;> rfl) (by kernel_rfl) (by simp) rfl ?_
  rintro x σ1 ⟨rfl, rfl⟩
  refine OpsA.all (by simp <;> rfl) ?_
  refine Tri.cond (b := false) (by simp) (fun h => by cases h) (fun _ => ?_)
  have nm : c + 2 ≠ c + 1 := by omega
  have nk : c + 2 ≠ c := by omega
  have mk : c + 1 ≠ c := by omega
  refine Tri.skip ?_
  refine Tri.seqR ttok rfl ?_
  refine OpsA.call (CallA.wk (call_new14 (N := c + 2) (M := c + 1) (K := c) (vs := []) (by simp) nm nk mk) (show WkL [.nils] [.sl []] from ⟨Wk.nils, trivial⟩)) rfl (by simp <;> rfl) (by kernel_rfl) (by simp) rfl ?_
  rintro x σ1 ⟨rfl, rfl⟩
  refine OpsA.all (by simp <;> rfl) ?_
  refine Tri.seq ?_
  refine Tri.seqX ttok rfl (by simp <;> rfl) ?_
  refine Tri.cond (b := false) (by simp) (fun h => by cases h) (fun _ => ?_)
  refine Tri.skip ?_
  refine Tri.seqX ttok rfl (by simp <;> rfl) ?_
  refine Tri.seq ?_
  refine Tri.seqX ttok rfl (by simp <;> rfl) ?_
  refine Tri.block ?_
  refine Tri.loopL (α := Nat × Wire) (fun x => ({ t := tl [(0, .sl (vs.map intRow)), (3, .ptr (c + 2) 0), (4, .int .i64 x.2.opens.length), (5, .int .i64 x.1)], σ := putW (fun _ => none) (c + 2) (c + 1) c x.2, c := c + 3, fr := [], m := 73, ds := [] } : AS)) (fun x => 30 - x.1) (fun x => x.1 ≤ vs.length ∧ x.1 ≤ 30 ∧ OInv x.2 x.1) (0, w00) ?_ ⟨by simp, by simp, OInv.zero⟩ ?_
  · refine Le.gh ⟨?_, ?_, ?_, ?_, ?_, ?_⟩
    · exact LeT.cons (by simp [w00]) (LeT.cons (by simp [w00]) (LeT.cons (by simp [w00]) (LeT.cons (by simp [w00]) (LeT.nil))))
    · simp [w00]
    · simp
    · simp
    · rfl
    · rfl
  · rintro ⟨i, w⟩ ⟨hi1, hi2, hw⟩
    dsimp only at hi1 hi2 hw ⊢
    rcases (show (i < vs.length ∧ i < 30) ∨ (¬ i < vs.length) ∨ (i < vs.length ∧ ¬ i < 30) by omega) with ⟨hlt1, hlt2⟩ | hlt1 | ⟨hlt1, hlt2⟩
    · refine Tri.seq ?_
      refine Tri.seqR ttok rfl ?_
      refine OpsA.allG (by simp [hlt1, hlt2, (show (i : Int) < 30 by omega)] <;> rfl) ?_
      refine Tri.cond (b := true) (by simp [hlt1, hlt2, (show (i : Int) < 30 by omega)]) (fun _ => ?_) (fun h => by cases h)
      obtain ⟨v, hv⟩ : ∃ v, vs[i]'(hlt1) = v := ⟨_, rfl⟩
      have hv' : vs[i]? = some v := by rw [List.getElem?_eq_getElem (hlt1), hv]
      have hvk := within_bounds v (n := 12) (by omega)
      have hw' := hw.ask (within v 12) hvk
      refine Tri.skip ?_
      refine Tri.seq ?_
      refine Tri.block ?_
      refine Tri.seqR ttok rfl ?_
      refine OpsA.runX 4 (by simp [hlt1, hlt2, hv, hv', intRow] <;> rfl) ?_
      simp only [List.drop]
      refine OpsA.call (call_within (a := v) (n := 12) (by omega) (by omega)) rfl (by simp [hlt1, hlt2, hv, hv', intRow, intRow] <;> rfl) (by kernel_rfl) (by simp) rfl ?_
      rintro x σ' ⟨rfl, rfl⟩
      refine OpsA.all (by simp [hlt1, hlt2, hv, hv', intRow] <;> rfl) ?_
      refine Tri.seqR ttok rfl ?_
      refine OpsA.runX 1 (by simp [hlt1, hlt2, hv, hv', intRow] <;> rfl) ?_
      simp only [List.drop]
      refine OpsA.call (call_open16 (hw.isW hi2 nm nk mk _) (hw.keys hi2)) rfl (by simp [hlt1, hlt2, hv, hv', intRow] <;> rfl) (by kernel_rfl) (by simp) rfl ?_
      rintro x σ' ⟨rfl, rfl⟩
      refine OpsA.all (by simp [hlt1, hlt2, hv, hv', intRow] <;> rfl) ?_
      refine Tri.seqR ttok rfl ?_
      refine OpsA.runX 3 (by simp [hlt1, hlt2, hv, hv', intRow] <;> rfl) ?_
      simp only [List.drop]
      refine OpsA.call (call_ask17 (e := ⟨pay, within v 12, 0⟩) (hw.isW hi2 nm nk mk _) (by rw [hw.fl]; have := hw.le; omega)) rfl (by simp [hlt1, hlt2, hv, hv', intRow, evAV, pay] <;> rfl) (by kernel_rfl) (by simp) rfl ?_
      rintro x σ' ⟨rfl, rfl⟩
      simp only [σ_put, σ_with, fr_put, fr_with, putW_put nm nk mk]
      generalize hwe : askW w ⟨pay, within v 12, 0⟩ = w' at hw' ⊢
      have hle := hw.le
      have hle' := hw'.le
      have e5 : IntKind.i64.wrap (IntKind.i64.wrap ((w.opens.length : Int) + w'.opens.length) - w.opens.length) = w'.opens.length := by
        rw [wrap_id (n := (w.opens.length : Int) + w'.opens.length) (by omega) (by omega), wrap_id (by omega) (by omega)]; omega
      refine OpsA.nil ?_
      refine Tri.seqR ttok rfl ?_
      refine OpsA.runX 1 (by simp [hlt1, hlt2, hv, hv', intRow] <;> rfl) ?_
      simp only [List.drop]
      refine OpsA.call (call_open16 (hw'.isW (by omega) nm nk mk _) (hw'.keys (by omega))) rfl (by simp [hlt1, hlt2, hv, hv', intRow] <;> rfl) (by kernel_rfl) (by simp) rfl ?_
      rintro x σ' ⟨rfl, rfl⟩
      refine OpsA.all (by simp [sortedKeys_length] <;> rfl) ?_
      refine Tri.seqX ttok rfl (by simp [sortedKeys_length] <;> rfl) ?_
      refine Tri.seqX ttok rfl (by simp [sortedKeys_length] <;> rfl) ?_
      refine Tri.block ?_
      refine Tri.loopL (α := Nat) (fun x => ({ t := tl [(0, .sl (vs.map intRow)), (3, .ptr (c + 2) 0), (4, .int .i64 w'.opens.length), (5, .int .i64 i), (8, .sl ((sortedKeys w').map intRow)), (9, .int .i64 ((x : Int) + 1))], σ := putW (fun _ => none) (c + 2) (c + 1) c w', c := c + 3, fr := [], m := 73, ds := [] } : AS)) (fun x => w'.opens.length - x) (fun x => x ≤ w'.opens.length) 0 ?_ (Nat.zero_le _) ?_
      · refine Le.gh ⟨?_, ?_, ?_, ?_, ?_, ?_⟩
        · exact LeT.cons (by simp [e5, sortedKeys_length]) (LeT.cons (by simp [e5, sortedKeys_length]) (LeT.cons (by simp [e5, sortedKeys_length]) (LeT.cons (by simp [e5, sortedKeys_length]) (LeT.cons (by simp [e5, sortedKeys_length]) (LeT.cons (by simp [e5, sortedKeys_length]) (LeT.nil))))))
        · simp
        · simp
        · simp
        · rfl
        · rfl
      · intro j hj0
        by_cases hj : j + 1 < w'.opens.length
        · refine Tri.seq ?_
          refine Tri.seqX ttok rfl (by simp [sortedKeys_length, hj, sortedKeys_length, (show (j : Int) + 1 < w'.opens.length by omega)] <;> rfl) ?_
          refine Tri.cond (b := true) (by simp [sortedKeys_length, hj, sortedKeys_length, (show (j : Int) + 1 < w'.opens.length by omega)]) (fun _ => ?_) (fun h => by cases h)
          obtain ⟨a, ha⟩ : ∃ v, (sortedKeys w')[j]'(by rw [sortedKeys_length]; omega) = v := ⟨_, rfl⟩
          have ha' : (sortedKeys w')[j]? = some a := by rw [List.getElem?_eq_getElem (by rw [sortedKeys_length]; omega), ha]
          obtain ⟨b, hb⟩ : ∃ v, (sortedKeys w')[j + 1]'(by rw [sortedKeys_length]; omega) = v := ⟨_, rfl⟩
          have hb' : (sortedKeys w')[j + 1]? = some b := by rw [List.getElem?_eq_getElem (by rw [sortedKeys_length]; omega), hb]
          have hlt := sorted_lt hw'.nd ha' hb'
          have hnl : ¬ b ≤ a := by omega
          have hle' := hw'.le
          have e1 : IntKind.i64.wrap (j : Int) = j := wrap_id (by omega) (by omega)
          have e2 : (j + 1 : Int).toNat = j + 1 := by omega
          have e3 : (j : Int) < w'.opens.length := by omega
          have e4 : (0 : Int) ≤ j + 1 := by omega
          have e6 : IntKind.i64.wrap ((j : Int) + 1 + 1) = ((j + 1 : Nat) : Int) + 1 := by rw [wrap_id (by omega) (by omega)]; omega
          refine Tri.skip ?_
          refine Tri.seq ?_
          refine Tri.block ?_
          refine Tri.seqD ttok mix [0, 1, 2, 5, 6, 3, 4, 7, 8, 9] (by kernel_rfl) rfl ?_
          simp only [List.filterMap, List.map, List.getElem?_cons_succ, List.getElem?_cons_zero]
          refine OpsA.all (by simp [sortedKeys_length, hj, sortedKeys_length, (show (j : Int) + 1 < w'.opens.length by omega), e1, e2, e3, e4, ha, hb, ha', hb', hnl, intRow, (show j < w'.opens.length by omega)] <;> rfl) ?_
          refine Tri.cond (b := false) (by simp [sortedKeys_length, hj, sortedKeys_length, (show (j : Int) + 1 < w'.opens.length by omega), e1, e2, e3, e4, ha, hb, ha', hb', hnl, intRow, (show j < w'.opens.length by omega)]) (fun h => by cases h) (fun _ => ?_)
          refine Tri.skip ?_
          try simp only [thenQ, blockQ]
          refine Tri.x ttok rfl (by simp [sortedKeys_length, hj, sortedKeys_length, (show (j : Int) + 1 < w'.opens.length by omega), e1, e2, e3, e4, ha, hb, ha', hb', hnl, intRow, (show j < w'.opens.length by omega)] <;> rfl) ?_
          refine ⟨j + 1, by omega, by omega, Le.gh ⟨LeT.cons (by simp [e6]) (LeT.cons (by simp [e6]) (LeT.cons (by simp [e6]) (LeT.cons (by simp [e6]) (LeT.cons (by simp [e6]) (LeT.cons (by simp [e6]) (LeT.nil)))))), by simp, by simp, by simp, rfl, rfl⟩⟩
        · refine Tri.seq ?_
          refine Tri.seqX ttok rfl (by simp [sortedKeys_length, (show ¬ (j : Int) + 1 < w'.opens.length by omega), sortedKeys_length] <;> rfl) ?_
          refine Tri.cond (b := false) (by simp [sortedKeys_length, (show ¬ (j : Int) + 1 < w'.opens.length by omega), sortedKeys_length]) (fun h => by cases h) (fun _ => ?_)
          have e7 : IntKind.i64.wrap ((i : Int) + 1) = ((i + 1 : Nat) : Int) := by rw [wrap_id (by omega) (by omega)]; omega
          refine Tri.exit ?_
          try simp only [thenQ, blockQ, if_true]
          try simp only [thenQ, blockQ]
          refine Tri.x ttok rfl (by simp [sortedKeys_length, (show ¬ (j : Int) + 1 < w'.opens.length by omega), sortedKeys_length] <;> rfl) ?_
          refine ⟨(i + 1, w'), ⟨by dsimp only; omega, by dsimp only; omega, hw'⟩, by dsimp only; omega, Le.gh ⟨LeT.cons (by simp [e7]) (LeT.cons (by simp [e7]) (LeT.cons (by simp [e7]) (LeT.cons (by simp [e7]) (LeT.nil)))), by simp, by simp, by simp, rfl, rfl⟩⟩
    · refine Tri.seq ?_
      refine Tri.seqR ttok rfl ?_
      refine OpsA.allG (by simp [hlt1] <;> rfl) ?_
      refine Tri.cond (b := false) (by simp [hlt1]) (fun h => by cases h) (fun _ => ?_)
      refine Tri.exit ?_
      try simp only [thenQ, blockQ, if_true]
      refine Tri.seqR ttok rfl ?_
      refine OpsA.runG 1 (by simp [hlt1, hw.fl, sortedKeys_length] <;> rfl) ?_
      simp only [List.drop]
      refine OpsA.call (call_flight18 (hw.isW hi2 nm nk mk _)) rfl (by simp [hlt1, hw.fl, sortedKeys_length] <;> rfl) (by kernel_rfl) (by simp) rfl ?_
      rintro x σ' ⟨rfl, rfl⟩
      refine OpsA.runG 5 (by simp [hlt1, hw.fl, sortedKeys_length] <;> rfl) ?_
      simp only [List.drop]
      refine OpsA.guard rfl rfl (by simp [hlt1, hw.fl, sortedKeys_length] <;> rfl) (fun _ => ?_) (fun h => absurd rfl h)
      refine OpsA.call (call_open16 (hw.isW hi2 nm nk mk _) (hw.keys hi2)) rfl (by simp [hlt1, hw.fl, sortedKeys_length, hw.fl] <;> rfl) (by kernel_rfl) (by simp) rfl ?_
      rintro x σ' ⟨rfl, rfl⟩
      refine OpsA.allG (by simp [hlt1, hw.fl, sortedKeys_length, hw.fl, sortedKeys_length] <;> rfl) ?_
      refine Tri.ret ?_
      exact fnPost.tmp (.inr rfl) rfl (by rfl) (by simp [hw.fl, sortedKeys_length] <;> rfl) (by exact True.intro) (by simp only [σ_put, σ_with, putW]; repeat (first | exact Stays.refl _ _ | refine Stays.new (by omega) ?_)) rfl
    · refine Tri.seq ?_
      refine Tri.seqR ttok rfl ?_
      refine OpsA.allG (by simp [hlt1, hlt2, (show ¬ (i : Int) < 30 by omega)] <;> rfl) ?_
      refine Tri.cond (b := false) (by simp [hlt1, hlt2, (show ¬ (i : Int) < 30 by omega)]) (fun h => by cases h) (fun _ => ?_)
      refine Tri.exit ?_
      try simp only [thenQ, blockQ, if_true]
      refine Tri.seqR ttok rfl ?_
      refine OpsA.runG 1 (by simp [hlt1, hlt2, (show ¬ (i : Int) < 30 by omega), hw.fl, sortedKeys_length] <;> rfl) ?_
      simp only [List.drop]
      refine OpsA.call (call_flight18 (hw.isW hi2 nm nk mk _)) rfl (by simp [hlt1, hlt2, (show ¬ (i : Int) < 30 by omega), hw.fl, sortedKeys_length] <;> rfl) (by kernel_rfl) (by simp) rfl ?_
      rintro x σ' ⟨rfl, rfl⟩
      refine OpsA.runG 5 (by simp [hlt1, hlt2, (show ¬ (i : Int) < 30 by omega), hw.fl, sortedKeys_length] <;> rfl) ?_
      simp only [List.drop]
      refine OpsA.guard rfl rfl (by simp [hlt1, hlt2, (show ¬ (i : Int) < 30 by omega), hw.fl, sortedKeys_length] <;> rfl) (fun _ => ?_) (fun h => absurd rfl h)
      refine OpsA.call (call_open16 (hw.isW hi2 nm nk mk _) (hw.keys hi2)) rfl (by simp [hlt1, hlt2, (show ¬ (i : Int) < 30 by omega), hw.fl, sortedKeys_length, hw.fl] <;> rfl) (by kernel_rfl) (by simp) rfl ?_
      rintro x σ' ⟨rfl, rfl⟩
      refine OpsA.allG (by simp [hlt1, hlt2, (show ¬ (i : Int) < 30 by omega), hw.fl, sortedKeys_length, hw.fl, sortedKeys_length] <;> rfl) ?_
      refine Tri.ret ?_
      exact fnPost.tmp (.inr rfl) rfl (by rfl) (by simp [hw.fl, sortedKeys_length] <;> rfl) (by exact True.intro) (by simp only [σ_put, σ_with, putW]; repeat (first | exact Stays.refl _ _ | refine Stays.new (by omega) ?_)) rfl
end Go.Proofs.Ytilpklkgmibpgaa
