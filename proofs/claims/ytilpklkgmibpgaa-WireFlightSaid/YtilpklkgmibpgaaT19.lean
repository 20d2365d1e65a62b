import Derived.Test.YtilpklkgmibpgaaT15
import Derived.Test.YtilpklkgmibpgaaAb17
namespace Go.Proofs.Ytilpklkgmibpgaa
open Go.Ab
set_option maxHeartbeats 400000
set_option linter.unusedVariables false
set_option linter.unusedSimpArgs false
attribute [local simp] tt3 tt4 tt9 tt22 tt24 tt30 tt31 tt36 tt42 tt55 tt57 tt63
attribute [local simp] eqA sliceEq rowsA fillR appendA AV.lt mapElem lookupA mapPutA mapDelA mapClearA lenA sliceA indexA nth buildA fillA placesA TI.zv nilEq fieldOfA
attribute [local simp] List.filter_cons


/-! ### What a tick makes of a wire -/
def getO (k : Int) : List (Int × Asking) → Option Asking
  | [] => none
  | p :: l => if k = p.1 then some p.2 else getO k l
def setO (k : Int) (a : Asking) : List (Int × Asking) → List (Int × Asking)
  | [] => [(k, a)]
  | p :: l => if k = p.1 then (k, a) :: l else p :: setO k a l
theorem fnd_getO {k : Int} {a : Asking} : ∀ {l : List (Int × Asking)}, getO k l = some a → ∃ j, fnd k (l.map fun p => (p.1, askAV p.2)) = some (j, askAV a)
  | [], h => by cases h
  | p :: l, h => by
    simp only [getO] at h
    simp only [List.map_cons, fnd]
    split at h
    · rename_i hk; cases h; exact ⟨0, by simp [hk]⟩
    · rename_i hk
      obtain ⟨j, e⟩ := fnd_getO h
      exact ⟨j + 1, by simp [hk, e]⟩
theorem putM_setO {k : Int} {a : Asking} : ∀ (l : List (Int × Asking)), putM k (askAV a) (l.map fun p => (p.1, askAV p.2)) = (setO k a l).map fun p => (p.1, askAV p.2)
  | [] => rfl
  | p :: l => by
    simp only [List.map_cons, putM, setO]
    split
    · rfl
    · simp [putM_setO l]
theorem setO_keys {k : Int} {a : Asking} : ∀ {l : List (Int × Asking)}, (getO k l).isSome = true → (setO k a l).map (·.1) = l.map (·.1)
  | [], h => by cases h
  | p :: l, h => by
    simp only [getO] at h
    simp only [setO]
    split at h
    · rename_i hk; simp [hk]
    · rename_i hk; simp [hk, setO_keys h]
theorem getO_mem {k : Int} : ∀ {l : List (Int × Asking)}, k ∈ l.map (·.1) → ∃ a, getO k l = some a
  | [], h => by cases h
  | p :: l, h => by
    simp only [getO]
    split
    · exact ⟨_, rfl⟩
    · rename_i hk
      simp only [List.map_cons, List.mem_cons] at h
      exact getO_mem (h.elim (fun e => absurd e hk) id)
theorem getO_in {k : Int} {a : Asking} : ∀ {l : List (Int × Asking)}, getO k l = some a → (k, a) ∈ l
  | [], h => by cases h
  | p :: l, h => by
    simp only [getO] at h
    split at h
    · rename_i hk; cases h; subst hk; exact List.mem_cons_self ..
    · exact List.mem_cons_of_mem _ (getO_in h)
theorem setO_in {k : Int} {a : Asking} : ∀ {l : List (Int × Asking)} {p : Int × Asking}, p ∈ setO k a l → p = (k, a) ∨ p ∈ l
  | [], p, h => by simp [setO] at h; exact .inl h
  | q :: l, p, h => by
    simp only [setO] at h
    split at h
    · rcases List.mem_cons.1 h with h | h
      · exact .inl h
      · exact .inr (List.mem_cons_of_mem _ h)
    · rcases List.mem_cons.1 h with h | h
      · exact .inr (h ▸ List.mem_cons_self ..)
      · exact (setO_in h).imp id (List.mem_cons_of_mem _)

/-- A key that is due is asked again. -/
def again (w : Wire) (k : Int) (a : Asking) : Wire := { w with opens := setO k ⟨a.name, w.clock + min (2 * a.wait) 8, min (2 * a.wait) 8⟩ w.opens, flight := w.flight ++ [⟨false, ⟨a.name, k, 0⟩⟩] }
def tick1 (w : Wire) (k : Int) : Wire := match getO k w.opens with
  | some a => if a.time = w.clock then again w k a else w
  | none => w
def tickAll (w : Wire) (ks : List Int) : Wire := ks.foldl tick1 w
def tickW (w : Wire) : Wire := tickAll { w with clock := w.clock + 1 } (sortedKeys w)

/-- Between the rounds of a tick: what holds of the wire. -/
structure TOk (w0 : Wire) (i : Nat) (w : Wire) : Prop where
  keys : w.opens.map (·.1) = w0.opens.map (·.1)
  ck : w.clock = w0.clock
  ap : w.applied = w0.applied
  vs : w.values = w0.values
  gen : w.gen = w0.gen
  fl : w.flight.length ≤ w0.flight.length + i
  wt : ∀ p ∈ w.opens, 0 ≤ p.2.wait ∧ p.2.wait ≤ 8
theorem TOk.start {w : Wire} (h : ∀ p ∈ w.opens, 0 ≤ p.2.wait ∧ p.2.wait ≤ 8) : TOk w 0 w := ⟨rfl, rfl, rfl, rfl, rfl, Nat.le_refl _, h⟩
theorem TOk.again {w0 w : Wire} {i : Nat} {k : Int} {a : Asking} (h : TOk w0 i w) (ha : getO k w.opens = some a) : TOk w0 (i + 1) (again w k a) := by
  refine ⟨?_, h.ck, h.ap, h.vs, h.gen, ?_, ?_⟩
  · show (setO k _ w.opens).map (·.1) = _
    rw [setO_keys (by rw [ha]; rfl), h.keys]
  · have := h.fl; simp [Ytilpklkgmibpgaa.again]; omega
  · intro p hp
    rcases setO_in hp with rfl | hp
    · have := h.wt _ (getO_in ha)
      simp only at this ⊢
      omega
    · exact h.wt p hp
theorem TOk.tick1 {w0 w : Wire} {i : Nat} {k : Int} (h : TOk w0 i w) : TOk w0 (i + 1) (tick1 w k) := by
  have hs : TOk w0 (i + 1) w := ⟨h.keys, h.ck, h.ap, h.vs, h.gen, by have := h.fl; omega, h.wt⟩
  unfold Ytilpklkgmibpgaa.tick1
  split
  · rename_i a ha
    split
    · exact h.again ha
    · exact hs
  · exact hs
theorem tickAll_take {w : Wire} {ks : List Int} {i : Nat} {k : Int} (h : ks[i]? = some k) : tickAll w (ks.take (i + 1)) = tick1 (tickAll w (ks.take i)) k := by
  simp [tickAll, List.take_add_one, h]
theorem TOk.all {w : Wire} (h : ∀ p ∈ w.opens, 0 ≤ p.2.wait ∧ p.2.wait ≤ 8) (ks : List Int) : ∀ i, i ≤ ks.length → TOk w i (tickAll w (ks.take i))
  | 0, _ => by simpa [tickAll] using TOk.start h
  | i + 1, hi => by
    obtain ⟨k, hk⟩ : ∃ k, ks[i]? = some k := ⟨_, List.getElem?_eq_getElem (by omega)⟩
    rw [tickAll_take hk]
    exact (TOk.all h ks i (by omega)).tick1
theorem TOk.isW {w0 w : Wire} {i : Nat} (h : TOk w0 i w) {σ : Nat → Option AO} {N M K : Nat} (hw : IsW σ N M K w0) (hf : w0.flight.length + i ≤ 900000) : IsW (putW σ N M K w) N M K w :=
  IsW.put hw.ne hw.neK hw.neMK (by rw [h.vs]; exact hw.vs) (by have := h.fl; omega) (by rw [h.ap]; exact hw.ap) (by rw [h.ck]; exact hw.clock)
theorem call_due43 {σ : Nat → Option AO} {B N : Nat} : CallA Try.prog 43 [.ptr N 0] σ [B] fun x σ' => x = .fn (.func 55) [] [.ptr B 0] ∧ σ' = upd σ B (some (.cells 24 [.ptr N 0])) := by
  refine CallA.of ttok Try.func43 rfl (show 1 ≤ 4 by decide) fun c hF => ?_
  have hσ : cutσ c σ = σ := cutσ_self fun n hn => (hF.good.2 n hn : σ n = none)
  have hBc : B < c := hF.fr B (by simp [startA])
  have hNc : N < c := hF.t 0
  refine Tri.seqX ttok rfl (by simp <;> rfl) ?_
  refine Tri.seqX ttok rfl (by simp <;> rfl) ?_
  refine Tri.ret ?_
  refine fnPost.tmp (.inr rfl) rfl (by rfl) (by simp <;> rfl) (by exact ⟨trivial, hBc, trivial⟩) ?_ ⟨rfl, ?_⟩
  · simp; exact Stays.old (x := .cells 24 [.ptr N 0]) ⟨hNc, trivial⟩ (Stays.refl _ _)
  · simp [cutσ_old, hBc, hσ]
theorem call_due55 {σ : Nat → Option AO} {N M K B nl : Nat} {w : Wire} (hw : IsW σ N M K w) (hk : KeysOk w) (hwt : ∀ p ∈ w.opens, 0 ≤ p.2.wait ∧ p.2.wait ≤ 8) (hB : σ B = some (.cells 24 [.ptr N 0]))
    (hY : ∀ i k a, i < (sortedKeys w).length → (sortedKeys w)[i]? = some k → getO k (tickAll w ((sortedKeys w).take i)).opens = some a → a.time = (tickAll w ((sortedKeys w).take i)).clock → TOk w i (tickAll w ((sortedKeys w).take i)) →
      RoundA Try.prog nl [.int .i64 k] (putW σ N M K (tickAll w ((sortedKeys w).take i))) [] fun x σ' => x = .bool true ∧ σ' = putW σ N M K (again (tickAll w ((sortedKeys w).take i)) k a)) : CallA Try.prog 55 [.yld nl, .ptr B 0] σ [] fun x σ' => x = .tup [] ∧ σ' = putW σ N M K (tickAll w (sortedKeys w)) := by
  refine CallA.of ttok Try.func55 rfl (show 2 ≤ 31 by decide) fun c hF => ?_
  have hσ : cutσ c σ = σ := cutσ_self fun n hn => (hF.good.2 n hn : σ n = none)
  have hNc : N < c := (hF.σ N _ hw.n).1
  have hMc : M < c := (hF.σ M _ hw.m).1
  have hKc : K < c := (hF.σ K _ hw.k).1
  have hBN : B ≠ N := fun e => by have h1 := hw.n; rw [← e, hB] at h1; simp [wireCells] at h1
  have hBM : B ≠ M := fun e => by have h1 := hw.m; rw [← e, hB] at h1; cases h1
  have hBK : B ≠ K := fun e => by have h1 := hw.k; rw [← e, hB] at h1; cases h1
  refine Tri.seqR ttok rfl ?_
  refine OpsA.runX 1 (by simp [hB] <;> rfl) ?_
  simp only [List.drop]
  refine OpsA.call (call_open16 hw hk) rfl (by simp [hB] <;> rfl) (by kernel_rfl) (by simp) rfl ?_
  rintro x σ1 ⟨rfl, h1⟩
  obtain rfl := h1.symm
  clear h1
  generalize hks : sortedKeys w = ks at *
  have hlen : ks.length = w.opens.length := by rw [← hks]; exact sortedKeys_length
  have hkl := hk.len
  refine OpsA.all (by simp [hB] <;> rfl) ?_
  refine Tri.block ?_
  refine Tri.loopL (α := Nat) (fun x => ({ t := tl [(0, .yld nl), (1, .ptr B 0), (6, .sl (ks.map intRow)), (7, .int .i64 (ks.length : Int)), (8, .int .i64 (x : Int))], σ := putW σ N M K (tickAll w (ks.take x)), c := c, fr := [], m := 31, ds := [] } : AS)) (fun x => ks.length - x) (fun x => x ≤ ks.length) 0 ?_ (Nat.zero_le _) ?_
  · refine Le.gh ⟨?_, ?_, ?_, ?_, ?_, ?_⟩
    · exact LeT.cons (by simp) (LeT.cons (by simp) (LeT.cons (by simp) (LeT.cons (by simp) (LeT.cons (by simp) (LeT.nil)))))
    · simp [tickAll, hw.self]
    · simp
    · simp
    · rfl
    · rfl
  · intro i hi0
    have tok := TOk.all hwt ks i hi0
    have hB' : putW σ N M K (tickAll w (ks.take i)) B = some (.cells 24 [.ptr N 0]) := by rw [putW_other hBN hBM hBK]; exact hB
    have hN' : putW σ N M K (tickAll w (ks.take i)) N = some (.cells 57 (wireCells (tickAll w (ks.take i)) M K)) := putW_atN
    have hM' : putW σ N M K (tickAll w (ks.take i)) M = some (.imap (openEs (tickAll w (ks.take i)))) := putW_atM hw.ne
    by_cases hi : i < ks.length
    · refine Tri.seqX ttok rfl (by simp [hB, hi] <;> rfl) ?_
      refine Tri.seq ?_
      refine Tri.cond (b := true) (by simp [hB, hi]) (fun _ => ?_) (fun h => by cases h)
      obtain ⟨k, hk0⟩ : ∃ v, ks[i]'(hi) = v := ⟨_, rfl⟩
      have hk0' : ks[i]? = some k := by rw [List.getElem?_eq_getElem (hi), hk0]
      have hkm : k ∈ (tickAll w (ks.take i)).opens.map (·.1) := by
        rw [tok.keys]
        have : k ∈ sortedKeys w := by rw [hks]; exact List.mem_of_getElem? hk0'
        exact (List.mergeSort_perm _ _).mem_iff.1 this
      obtain ⟨a, ha⟩ := getO_mem hkm
      obtain ⟨j, hj⟩ := fnd_getO ha
      have hj' : fnd k (openEs (tickAll w (ks.take i))) = some (j, askAV a) := hj
      have hnext := tickAll_take (w := w) hk0'
      have e7 : IntKind.i64.wrap ((i : Int) + 1) = ((i + 1 : Nat) : Int) := by rw [wrap_id (by omega) (by omega)]; omega
      by_cases hd : a.time = (tickAll w (ks.take i)).clock
      · refine Tri.skip ?_
        refine Tri.seq ?_
        refine Tri.block ?_
        refine Tri.seqX ttok rfl (by simp [hB, hi, hB', hN', hM', wireCells, intRow, hk0, hk0', hj', askAV, hd] <;> rfl) ?_
        refine Tri.seqD ttok mix [4, 0, 1, 2, 3, 5, 6, 7, 8, 9, 10, 11, 12, 13, 14, 15, 16, 17] (by kernel_rfl) rfl ?_
        simp only [List.filterMap, List.map, List.getElem?_cons_succ, List.getElem?_cons_zero]
        refine OpsA.runG 15 (by simp [hB, hi, hB', hN', hM', wireCells, intRow, hk0, hk0', hj', askAV, hd] <;> rfl) ?_
        simp only [List.drop]
        refine OpsA.guard rfl rfl (by simp [hB, hi, hB', hN', hM', wireCells, intRow, hk0, hk0', hj', askAV, hd] <;> rfl) (fun _ => ?_) (fun h => absurd rfl h)
        refine OpsA.yield (hY i k a hi hk0' ha hd (tok)) rfl (by simp [hB, hi, hB', hN', hM', wireCells, intRow, hk0, hk0', hj', askAV, hd] <;> rfl) (by simp) rfl ?_
        rintro x σ' ⟨rfl, rfl⟩
        refine OpsA.allG (by simp [hB, hi, hB', hN', hM', wireCells, intRow, hk0, hk0', hj', askAV, hd] <;> rfl) ?_
        refine Tri.cond (b := false) (by simp [hB, hi, hB', hN', hM', wireCells, intRow, hk0, hk0', hj', askAV, hd]) (fun h => by cases h) (fun _ => ?_)
        refine Tri.skip ?_
        try simp only [thenQ, blockQ]
        refine Tri.x ttok rfl (by simp [hB, hi, hB', hN', hM', wireCells, intRow, hk0, hk0', hj', askAV, hd] <;> rfl) ?_
        exact ⟨i + 1, by omega, by omega, Le.gh ⟨LeT.cons (by simp [e7]) (LeT.cons (by simp [e7]) (LeT.cons (by simp [e7]) (LeT.cons (by simp [e7]) (LeT.cons (by simp [e7]) (LeT.nil))))), by simp [hnext, tick1, ha, hd], by simp, by simp, rfl, rfl⟩⟩
      · refine Tri.skip ?_
        refine Tri.seq ?_
        refine Tri.block ?_
        refine Tri.seqX ttok rfl (by simp [hB, hi, hB', hN', hM', wireCells, intRow, hk0, hk0', hj', askAV, hd] <;> rfl) ?_
        refine Tri.seqD ttok mix [4, 0, 1, 2, 3, 5, 6, 7, 8, 9, 10, 11, 12, 13, 14, 15, 16, 17] (by kernel_rfl) rfl ?_
        simp only [List.filterMap, List.map, List.getElem?_cons_succ, List.getElem?_cons_zero]
        refine OpsA.allG (by simp [hB, hi, hB', hN', hM', wireCells, intRow, hk0, hk0', hj', askAV, hd] <;> rfl) ?_
        refine Tri.cond (b := false) (by simp [hB, hi, hB', hN', hM', wireCells, intRow, hk0, hk0', hj', askAV, hd]) (fun h => by cases h) (fun _ => ?_)
        refine Tri.skip ?_
        try simp only [thenQ, blockQ]
        refine Tri.x ttok rfl (by simp [hB, hi, hB', hN', hM', wireCells, intRow, hk0, hk0', hj', askAV, hd] <;> rfl) ?_
        exact ⟨i + 1, by omega, by omega, Le.gh ⟨LeT.cons (by simp [e7]) (LeT.cons (by simp [e7]) (LeT.cons (by simp [e7]) (LeT.cons (by simp [e7]) (LeT.cons (by simp [e7]) (LeT.nil))))), by simp [hnext, tick1, ha, hd], by simp, by simp, rfl, rfl⟩⟩
    · refine Tri.seqX ttok rfl (by simp [hB, hi] <;> rfl) ?_
      refine Tri.seq ?_
      refine Tri.cond (b := false) (by simp [hB, hi]) (fun h => by cases h) (fun _ => ?_)
      refine Tri.exit ?_
      try simp only [thenQ, blockQ, if_true]
      obtain rfl : i = ks.length := by omega
      refine fnPost.none (.inl rfl) rfl rfl ?_ ⟨rfl, ?_⟩
      · simp
        exact Stays.putW hMc hKc (Stays.refl _ _)
      · simp only [σ_put, σ_with]
        rw [cut_putW hNc hMc hKc, hσ, List.take_length]
end Go.Proofs.Ytilpklkgmibpgaa
