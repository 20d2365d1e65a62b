import Derived.Test.YtilpklkgmibpgaaT5
import Derived.Test.YtilpklkgmibpgaaT6
import Derived.Test.YtilpklkgmibpgaaT7
namespace Go.Proofs.Ytilpklkgmibpgaa
open Go.Ab
set_option maxHeartbeats 400000
set_option linter.unusedVariables false
set_option linter.unusedSimpArgs false
attribute [local simp] tt3 tt4 tt9 tt22 tt24 tt30 tt31 tt36 tt42 tt55 tt57 tt63
attribute [local simp] eqA sliceEq rowsA fillR appendA AV.lt mapElem lookupA mapPutA mapDelA mapClearA lenA sliceA indexA nth buildA fillA placesA TI.zv

theorem bn1 (c : Nat) : (c + 1 != c) = true := by simp
theorem bn2 (c : Nat) : (c + 1 + 1 != c) = true := by simp; omega
theorem bn3 (c : Nat) : (c + 1 + 1 != c + 1) = true := by simp
theorem bn4 (c : Nat) : (c != c + 1) = true := by simp
theorem bn5 (c : Nat) : (c != c + 1 + 1) = true := by simp; omega
theorem bn6 (c : Nat) : (c + 1 != c + 1 + 1) = true := by simp
theorem cn1 (c : Nat) : (c = c + 1 + 1) = False := by simp; omega
theorem cn2 (c : Nat) : (c + 1 + 1 = c) = False := by simp; omega
theorem cn3 (c : Nat) : (c + 1 = c + 1 + 1) = False := by simp
theorem cn4 (c : Nat) : (c + 1 + 1 = c + 1) = False := by simp
attribute [local simp] cn1 cn2 cn3 cn4
attribute [local simp] bn1 bn2 bn3 bn4 bn5 bn6 List.filter_cons
def twiceW (w : Wire) (i : Int) : Wire := match (if 0 ≤ i then w.flight[i.toNat]? else none) with
  | some m => { w with flight := w.flight ++ [m] }
  | none => w
theorem call_twice23 {σ : Nat → Option AO} {N M K : Nat} {w : Wire} {i : Int} (hw : IsW σ N M K w) (hfl : w.flight.length < 900000) :
    CallA Try.prog 23 [.ptr N 0, .int .i64 i] σ [] fun x σ' => x = .bool (decide (0 ≤ i ∧ i < w.flight.length)) ∧ σ' = putW σ N M K (twiceW w i) := by
  refine CallA.of ttok Try.func23 rfl (show 2 ≤ 27 by decide) fun c hF => ?_
  have hσ : cutσ c σ = σ := cutσ_self fun n hn => (hF.good.2 n hn : σ n = none)
  have hn := hw.n
  have hNc : N < c := (hF.σ N _ hn).1
  have hMc : M < c := (hF.σ M _ hw.m).1
  have hKc : K < c := (hF.σ K _ hw.k).1
  refine Tri.seqX ttok rfl (by simp <;> rfl) ?_
  refine Tri.seq (Tri.seq (Tri.region ttok rfl ?_))
  refine OpsA.runX 2 (by simp <;> rfl) ?_
  simp only [List.drop]
  refine OpsA.call (call_is39 (i := i) (w := w) (N := N) (M := M) (K := K) hw) rfl (by simp <;> rfl) (by kernel_rfl) (by simp) rfl ?_
  rintro x σ' ⟨rfl, rfl⟩
  refine OpsA.all (by simp <;> rfl) ?_
  by_cases hi : 0 ≤ i ∧ i < w.flight.length
  · refine Tri.cond (b := false) (by simp [hi]) (fun h => by cases h) (fun h => ?_)
    refine Tri.skip ?_
    obtain ⟨k, rfl⟩ : ∃ k : Nat, i = k := ⟨i.toNat, by omega⟩
    have hk : k < w.flight.length := by omega
    obtain ⟨m, hm0⟩ : ∃ m, w.flight[k]'hk = m := ⟨_, rfl⟩
    have hm : w.flight[k]? = some m := by rw [List.getElem?_eq_getElem hk, hm0]
    refine Tri.seqD ttok mix [0, 1, 2, 3, 5, 9, 10, 11, 13, 4, 6, 7, 8, 12, 14, 15, 16, 17] (by kernel_rfl) rfl ?_
    simp only [List.filterMap, List.map, List.getElem?_cons_succ, List.getElem?_cons_zero]
    refine OpsA.runX 17 (by simp [hn, wireCells, hk, hm, msgRow] <;> rfl) ?_
    simp only [List.drop]
    refine OpsA.call (call_fly37 (b := m.back) (e := m.ev) hw) rfl (by simp [evAV, hm0] <;> rfl) (by kernel_rfl) (by simp) rfl ?_
    rintro x σ1 ⟨rfl, rfl⟩
    refine OpsA.nil ?_
    refine Tri.seqX ttok rfl (by simp <;> rfl) ?_
    refine Tri.ret (fnPost.tmp (.inr rfl) rfl rfl (by simp <;> rfl) (by exact True.intro) ?_ ⟨by simp [hk], ?_⟩)
    · simp only [σ_put, σ_with]
      exact Stays.putW hMc hKc (Stays.refl _ _)
    · have : twiceW w (k : Int) = { w with flight := w.flight ++ [⟨m.back, m.ev⟩] } := by simp [twiceW, hk, hm0]
      simp [cut_putW hNc hMc hKc, hσ, this]
  · refine Tri.cond (b := true) (by simp; omega) (fun h => ?_) (fun h => by cases h)
    refine Tri.seqX ttok rfl (by simp <;> rfl) ?_
    have : twiceW w i = w := by
      unfold twiceW
      by_cases h0 : 0 ≤ i
      · rw [if_pos h0, List.getElem?_eq_none (by omega)]
      · rw [if_neg h0]
    refine Tri.ret (fnPost.tmp (.inr rfl) rfl rfl (by simp <;> rfl) (by exact True.intro) ?_ ⟨by simp; omega, ?_⟩)
    · simp; exact Stays.refl _ _
    · simp [hσ, this, hw.self]
def deliverW (w : Wire) (i : Int) : (Ev × Bool) × Wire := match (if 0 ≤ i then w.flight[i.toNat]? else none) with
  | none => ((⟨[], 0, 0⟩, false), w)
  | some m =>
    let w1 := dropW w i
    if m.back = true then (if hasO w1 m.ev.key then ((m.ev, true), { w1 with opens := del m.ev.key w1.opens }) else ((⟨[], 0, 0⟩, false), w1))
    else
      let w2 := valueW w1 m.ev
      ((⟨[], 0, 0⟩, false), { w2 with flight := w2.flight ++ [⟨true, ⟨m.ev.name, m.ev.key, valueOf w1 m.ev⟩⟩] })
theorem call_deliver19 {σ : Nat → Option AO} {N M K : Nat} {w : Wire} {i : Int} (hw : IsW σ N M K w) (hfl : w.flight.length < 900000) (hap : w.applied.length < 900000) :
    CallA Try.prog 19 [.ptr N 0, .int .i64 i] σ [] fun x σ' => x = .tup [evAV (deliverW w i).1.1, .bool (deliverW w i).1.2] ∧ σ' = putW σ N M K (deliverW w i).2 := by
  refine CallA.of ttok Try.func19 rfl (show 2 ≤ 62 by decide) fun c hF => ?_
  have hσ : cutσ c σ = σ := cutσ_self fun n hn => (hF.good.2 n hn : σ n = none)
  have hn := hw.n
  have hNc : N < c := (hF.σ N _ hn).1
  have hMc : M < c := (hF.σ M _ hw.m).1
  have hKc : K < c := (hF.σ K _ hw.k).1
  have n0 : N ≠ c := by omega
  have n1 : N ≠ c + 1 := by omega
  have n2 : N ≠ c + 2 := by omega
  have m0 : M ≠ c := by omega
  have m1 : M ≠ c + 1 := by omega
  have m2 : M ≠ c + 2 := by omega
  have k0 : K ≠ c := by omega
  have k1 : K ≠ c + 1 := by omega
  have k2 : K ≠ c + 2 := by omega
  refine Tri.fresh (Tri.fresh (Tri.fresh ?_))
  refine Tri.seq (Tri.region ttok rfl ?_)
  refine OpsA.new c rfl (by simp <;> rfl) (by simp) (by simp <;> rfl) ?_
  refine OpsA.all (by simp <;> rfl) ?_
  refine Tri.seq (Tri.seq (Tri.region ttok rfl ?_))
  refine OpsA.runX 2 (by simp <;> rfl) ?_
  simp only [List.drop]
  have hw1 : IsW (upd σ c (some (.cells 30 [.str [], .int .i64 0, .int .i64 0]))) N M K w := ⟨by rw [upd_ne _ _ n0]; exact hw.n, by rw [upd_ne _ _ m0]; exact hw.m, by rw [upd_ne _ _ k0]; exact hw.k, hw.vs, hw.fl, hw.ap, hw.clock⟩
  refine OpsA.call (call_is39 (i := i) (w := w) (N := N) (M := M) (K := K) hw1) rfl (by simp <;> rfl) (by kernel_rfl) (by simp) rfl ?_
  rintro x σ' ⟨rfl, rfl⟩
  refine OpsA.all (by simp <;> rfl) ?_
  by_cases hi : 0 ≤ i ∧ i < w.flight.length
  · refine Tri.cond (b := false) (by simp [hi]) (fun h => by cases h) (fun h => ?_)
    refine Tri.skip ?_
    obtain ⟨k, rfl⟩ : ∃ k : Nat, i = k := ⟨i.toNat, by omega⟩
    have hk : k < w.flight.length := by omega
    obtain ⟨m, hm0⟩ : ∃ m, w.flight[k]'hk = m := ⟨_, rfl⟩
    have hm : w.flight[k]? = some m := by rw [List.getElem?_eq_getElem hk, hm0]
    refine Tri.seqX ttok rfl (by simp [n0, n1, n2, hn, wireCells, hk, hm, msgRow] <;> rfl) ?_
    simp only [hm0]
    refine Tri.seqR ttok rfl ?_
    refine OpsA.runX 2 (by simp <;> rfl) ?_
    simp only [List.drop]
    refine OpsA.call (call_drop22 (N := N) (M := M) (K := K) (w := w) (i := (k : Int)) (?_ : IsW _ N M K w)) rfl (by simp <;> rfl) (by kernel_rfl) (by simp) rfl ?_
    · refine ⟨?_, ?_, ?_, hw.vs, hw.fl, hw.ap, hw.clock⟩
      · simp [n0, n2, hn]
      · simp [m0, m2, hw.m]
      · simp [k0, k2, hw.k]
    rintro x σ3 ⟨rfl, rfl⟩
    refine OpsA.nil ?_
    have hd : dropW w k = { w with flight := w.flight.eraseIdx k } := by simp [dropW, hk]
    have hwd : ∀ σ', IsW (putW σ' N M K (dropW w k)) N M K (dropW w k) := fun σ' => IsW.put hw.ne hw.neK hw.neMK (by rw [hd]; exact hw.vs) (by rw [hd]; have := hw.fl; simp [List.length_eraseIdx]; split <;> omega) (by rw [hd]; exact hw.ap) (by rw [hd]; exact hw.clock)
    have o2 := fun (σ' : Nat → Option AO) => putW_other (σ := σ') (w' := dropW w k) n2.symm m2.symm k2.symm
    have o0 := fun (σ' : Nat → Option AO) => putW_other (σ := σ') (w' := dropW w k) n0.symm m0.symm k0.symm
    refine Tri.seq (Tri.seqX ttok rfl (by simp [o2, o0] <;> rfl) ?_)
    have u0 := fun (σ' : Nat → Option AO) (w' : Wire) (x : Option AO) => putW_upd (σ := σ') (w' := w') (x := x) n0.symm m0.symm k0.symm
    have u1 := fun (σ' : Nat → Option AO) (w' : Wire) (x : Option AO) => putW_upd (σ := σ') (w' := w') (x := x) n1.symm m1.symm k1.symm
    have u2 := fun (σ' : Nat → Option AO) (w' : Wire) (x : Option AO) => putW_upd (σ := σ') (w' := w') (x := x) (k := c + 1 + 1) n2.symm m2.symm k2.symm
    cases hb : m.back with
    | false =>
      refine Tri.cond (b := true) (by simp [hb]) (fun h => ?_) (fun h => by cases h)
      have o2' := fun (σ' : Nat → Option AO) (w' : Wire) => putW_other (σ := σ') (w' := w') n2.symm m2.symm k2.symm
      have o1' := fun (σ' : Nat → Option AO) (w' : Wire) => putW_other (σ := σ') (w' := w') n1.symm m1.symm k1.symm
      have o0' := fun (σ' : Nat → Option AO) (w' : Wire) => putW_other (σ := σ') (w' := w') n0.symm m0.symm k0.symm
      have hv1 : (valueW (dropW w k) m.ev).flight = (dropW w k).flight := by unfold valueW; split <;> rfl
      have hv2 : (valueW (dropW w k) m.ev).values = (dropW w k).values := by unfold valueW; split <;> rfl
      have hv3 : (valueW (dropW w k) m.ev).clock = (dropW w k).clock := by unfold valueW; split <;> rfl
      have hv4 : (valueW (dropW w k) m.ev).applied.length ≤ (dropW w k).applied.length + 1 := by unfold valueW; split <;> simp
      have hda : (dropW w k).applied = w.applied := by rw [hd]
      have hwv : ∀ σ', IsW (putW σ' N M K (valueW (dropW w k) m.ev)) N M K (valueW (dropW w k) m.ev) := fun σ' => IsW.put hw.ne hw.neK hw.neMK (by rw [hv2]; exact (hwd σ).vs) (by rw [hv1]; exact (hwd σ).fl) (by rw [hda] at hv4; omega) (by rw [hv3]; exact (hwd σ).clock)
      have val := fun (σ' : Nat → Option AO) => call_value40 (e := m.ev) (hwd σ')
      have fl := fun (σ' : Nat → Option AO) => call_fly37 (b := true) (e := ⟨m.ev.name, m.ev.key, valueOf (dropW w k) m.ev⟩) (hwv σ')
      refine Tri.seq (Tri.drawn' ttok mix [0, 1, 2, 4, 5, 7, 8, 9] 5 rfl (by kernel_rfl) rfl ?_)
      simp only [List.filterMap, List.map, List.getElem?_cons_succ, List.getElem?_cons_zero]
      refine OpsA.all (by simp [o2'] <;> rfl) ?_
      refine AnyA.mono (K := fun s => s.σ = putW (upd (upd σ c (some (.cells 30 [.str [], .int .i64 0, .int .i64 0]))) (c + 1 + 1) (some (.cells 42 [.bool false, .str m.ev.name, .int .i64 m.ev.key, .int .i64 m.ev.value]))) N M K
        { valueW (dropW w k) m.ev with flight := (valueW (dropW w k) m.ev).flight ++ [⟨true, ⟨m.ev.name, m.ev.key, valueOf (dropW w k) m.ev⟩⟩] } ∧ s.ev (.tmp 4) = .ptr c 0 ∧ s.ds = [] ∧ s.m = 62) ?_ ?_
      · rintro s ⟨q1, q2, q3, q4⟩
        refine Tri.seqX ttok (by rw [q4]; rfl) (by simp [q1, q2, o0'] <;> rfl) ?_
        refine Tri.ret ⟨_, Gh.refl _, .inr rfl, by simp [q3], [evAV ⟨[], 0, 0⟩, .bool false], ?_, ⟨⟨trivial, trivial, trivial, trivial⟩, trivial, trivial⟩, ?_, ?_, ?_⟩
        · show resA tt _ _ [.cell 4 30, .tmp 5] = _
          have q2' : s.t 4 = .ptr c 0 := q2
          simp [evAV, q2']
        · simp only [σ_put, σ_with, u0, u1, u2]
          refine Stays.putW hMc hKc ?_
          repeat (first | exact Stays.refl _ _ | refine Stays.new (by omega) ?_)
        · simp [deliverW, hk, hm0, hb, one]
        · simp only [σ_put, σ_with, u0, u1, u2, cut_putW hNc hMc hKc]
          repeat rw [cutσ_new _ (by omega)]
          simp [deliverW, hk, hm0, hb, hσ]
      · refine AnyA.branch3 3 6 10 (by kernel_rfl) rfl rfl rfl ?_ ?_ ?_
        · refine OpsA.all (by simp [o2'] <;> rfl) ?_
          refine AnyA.branch2 6 10 (by kernel_rfl) rfl rfl ?_ ?_
          · refine OpsA.all (by simp [o2'] <;> rfl) ?_
            refine AnyA.rest [10, 11, 12] rfl (by kernel_rfl) (by kernel_rfl) ?_
            simp only [List.filterMap, List.map, List.getElem?_cons_succ, List.getElem?_cons_zero]
            refine OpsA.call (val _) rfl (by simp [evAV] <;> rfl) (by kernel_rfl) (by simp) rfl ?_
            rintro x σ5 ⟨rfl, rfl⟩
            refine OpsA.runX 1 (by simp [o2'] <;> rfl) ?_
            simp only [List.drop]
            refine OpsA.call (fl _) rfl (by simp [evAV] <;> rfl) (by kernel_rfl) (by simp) rfl ?_
            rintro x σ6 ⟨rfl, rfl⟩
            refine OpsA.nil ?_
            exact ⟨by simp [putW_put hw.ne hw.neK hw.neMK], by simp, by simp, by rfl⟩
          · refine OpsA.call (val _) rfl (by simp [evAV] <;> rfl) (by kernel_rfl) (by simp) rfl ?_
            rintro x σ5 ⟨rfl, rfl⟩
            refine OpsA.nil ?_
            refine AnyA.rest [6, 11, 12] rfl (by kernel_rfl) (by kernel_rfl) ?_
            simp only [List.filterMap, List.map, List.getElem?_cons_succ, List.getElem?_cons_zero]
            refine OpsA.runX 2 (by simp [o2'] <;> rfl) ?_
            simp only [List.drop]
            refine OpsA.call (fl _) rfl (by simp [evAV] <;> rfl) (by kernel_rfl) (by simp) rfl ?_
            rintro x σ6 ⟨rfl, rfl⟩
            refine OpsA.nil ?_
            exact ⟨by simp [putW_put hw.ne hw.neK hw.neMK], by simp, by simp, by rfl⟩
        · refine OpsA.all (by simp [o2'] <;> rfl) ?_
          refine AnyA.branch2 3 10 (by kernel_rfl) rfl rfl ?_ ?_
          · refine OpsA.all (by simp [o2'] <;> rfl) ?_
            refine AnyA.rest [10, 11, 12] rfl (by kernel_rfl) (by kernel_rfl) ?_
            simp only [List.filterMap, List.map, List.getElem?_cons_succ, List.getElem?_cons_zero]
            refine OpsA.call (val _) rfl (by simp [evAV] <;> rfl) (by kernel_rfl) (by simp) rfl ?_
            rintro x σ5 ⟨rfl, rfl⟩
            refine OpsA.runX 1 (by simp [o2'] <;> rfl) ?_
            simp only [List.drop]
            refine OpsA.call (fl _) rfl (by simp [evAV] <;> rfl) (by kernel_rfl) (by simp) rfl ?_
            rintro x σ6 ⟨rfl, rfl⟩
            refine OpsA.nil ?_
            exact ⟨by simp [putW_put hw.ne hw.neK hw.neMK], by simp, by simp, by rfl⟩
          · refine OpsA.call (val _) rfl (by simp [evAV] <;> rfl) (by kernel_rfl) (by simp) rfl ?_
            rintro x σ5 ⟨rfl, rfl⟩
            refine OpsA.nil ?_
            refine AnyA.rest [3, 11, 12] rfl (by kernel_rfl) (by kernel_rfl) ?_
            simp only [List.filterMap, List.map, List.getElem?_cons_succ, List.getElem?_cons_zero]
            refine OpsA.runX 2 (by simp [o2'] <;> rfl) ?_
            simp only [List.drop]
            refine OpsA.call (fl _) rfl (by simp [evAV] <;> rfl) (by kernel_rfl) (by simp) rfl ?_
            rintro x σ6 ⟨rfl, rfl⟩
            refine OpsA.nil ?_
            exact ⟨by simp [putW_put hw.ne hw.neK hw.neMK], by simp, by simp, by rfl⟩
        · refine OpsA.call (val _) rfl (by simp [evAV] <;> rfl) (by kernel_rfl) (by simp) rfl ?_
          rintro x σ5 ⟨rfl, rfl⟩
          refine OpsA.nil ?_
          refine AnyA.rest [3, 6, 11, 12] rfl (by kernel_rfl) (by kernel_rfl) ?_
          simp only [List.filterMap, List.map, List.getElem?_cons_succ, List.getElem?_cons_zero]
          refine OpsA.runX 3 (by simp [o2'] <;> rfl) ?_
          simp only [List.drop]
          refine OpsA.call (fl _) rfl (by simp [evAV] <;> rfl) (by kernel_rfl) (by simp) rfl ?_
          rintro x σ6 ⟨rfl, rfl⟩
          refine OpsA.nil ?_
          exact ⟨by simp [putW_put hw.ne hw.neK hw.neMK], by simp, by simp, by rfl⟩
    | true =>
      refine Tri.cond (b := false) (by simp [hb]) (fun h => by cases h) (fun h => ?_)
      refine Tri.skip ?_
      have pM := fun (σ' : Nat → Option AO) (w' : Wire) => putW_atM (K := K) (σ := σ') (w' := w') hw.ne
      have hsome := fnd_open m.ev.key (dropW w k).opens
      refine Tri.seq (Tri.seqD ttok mix [0, 1, 2, 4, 5, 3, 6, 7, 8, 9, 10, 11, 12, 13] (by kernel_rfl) rfl ?_)
      simp only [List.filterMap, List.map, List.getElem?_cons_succ, List.getElem?_cons_zero]
      cases hq : fnd m.ev.key (openEs (dropW w k)) with
      | some q =>
        obtain ⟨j, y⟩ := q
        obtain ⟨a, rfl⟩ := fnd_ask hq
        refine OpsA.all (by simp [n0, n1, n2, putW_atN, pM, wireCells, hq, o2, o0, askAV] <;> rfl) ?_
        have hh : hasO (dropW w k) m.ev.key = true := by rw [openEs] at hq; rw [hq] at hsome; simpa [hasO] using hsome.symm
        refine Tri.seqX ttok rfl (by simp <;> rfl) ?_
        refine Tri.cond (by simp <;> rfl) (fun h => by cases h) (fun h => ?_)
        refine Tri.skip ?_
        refine Tri.seqR ttok rfl ?_
        have o2' := fun (σ' : Nat → Option AO) (w' : Wire) => putW_other (σ := σ') (w' := w') n2.symm m2.symm k2.symm
        have o1' := fun (σ' : Nat → Option AO) (w' : Wire) => putW_other (σ := σ') (w' := w') n1.symm m1.symm k1.symm
        have o0' := fun (σ' : Nat → Option AO) (w' : Wire) => putW_other (σ := σ') (w' := w') n0.symm m0.symm k0.symm
        refine OpsA.runX 4 (by simp [o2'] <;> rfl) ?_
        simp only [List.drop]
        refine OpsA.call (call_forget24 (N := N) (M := M) (K := K) (w := dropW w k) (k := m.ev.key) (?_ : IsW _ N M K (dropW w k))) rfl (by simp <;> rfl) (by kernel_rfl) (by simp) rfl ?_
        · refine ⟨?_, ?_, ?_, (hwd σ).vs, (hwd σ).fl, (hwd σ).ap, (hwd σ).clock⟩
          · simp [n1, putW_atN]
          · simp [m1, pM]
          · simp [k1, putW_atK hw.neK hw.neMK]
        rintro x σ4 ⟨rfl, rfl⟩
        refine OpsA.nil ?_
        refine Tri.seqX ttok rfl (by simp [o2', o0', o1'] <;> rfl) ?_
        refine Tri.ret ⟨_, Gh.refl _, .inr rfl, rfl, [evAV m.ev, .bool true], ?_, ⟨⟨trivial, trivial, trivial, trivial⟩, trivial, trivial⟩, ?_, ?_, ?_⟩
        · show resA tt _ _ [.cell 4 30, .tmp 5] = _
          simp [evAV]
        · simp only [σ_put, σ_with, u0, u1, u2, putW_put hw.ne hw.neK hw.neMK]
          refine Stays.putW hMc hKc ?_
          repeat (first | exact Stays.refl _ _ | refine Stays.new (by omega) ?_)
        · simp [deliverW, hk, hm0, hb, hh, one]
        · simp only [σ_put, σ_with, u0, u1, u2, putW_put hw.ne hw.neK hw.neMK, cut_putW hNc hMc hKc]
          repeat rw [cutσ_new _ (by omega)]
          simp [deliverW, hk, hm0, hb, hh, hσ]
      | none =>
        refine OpsA.all (by simp [n0, n1, n2, putW_atN, pM, wireCells, hq, o2, o0, askAV] <;> rfl) ?_
        have hh : hasO (dropW w k) m.ev.key = false := by rw [openEs] at hq; rw [hq] at hsome; simpa [hasO] using hsome.symm
        refine Tri.seqX ttok rfl (by simp <;> rfl) ?_
        refine Tri.cond (by simp <;> rfl) (fun h => ?_) (fun h => by cases h)
        have o2' := fun (σ' : Nat → Option AO) (w' : Wire) => putW_other (σ := σ') (w' := w') n2.symm m2.symm k2.symm
        have o1' := fun (σ' : Nat → Option AO) (w' : Wire) => putW_other (σ := σ') (w' := w') n1.symm m1.symm k1.symm
        have o0' := fun (σ' : Nat → Option AO) (w' : Wire) => putW_other (σ := σ') (w' := w') n0.symm m0.symm k0.symm
        refine Tri.seqX ttok rfl (by simp [o2', o0', o1'] <;> rfl) ?_
        refine Tri.ret ⟨_, Gh.refl _, .inr rfl, rfl, [evAV ⟨[], 0, 0⟩, .bool false], ?_, ⟨⟨trivial, trivial, trivial, trivial⟩, trivial, trivial⟩, ?_, ?_, ?_⟩
        · show resA tt _ _ [.cell 4 30, .tmp 5] = _
          simp [evAV]
        · simp only [σ_put, σ_with, u0, u1, u2, putW_put hw.ne hw.neK hw.neMK]
          refine Stays.putW hMc hKc ?_
          repeat (first | exact Stays.refl _ _ | refine Stays.new (by omega) ?_)
        · simp [deliverW, hk, hm0, hb, hh, one]
        · simp only [σ_put, σ_with, u0, u1, u2, putW_put hw.ne hw.neK hw.neMK, cut_putW hNc hMc hKc]
          repeat rw [cutσ_new _ (by omega)]
          simp [deliverW, hk, hm0, hb, hh, hσ]
  · refine Tri.cond (b := true) (by simp; omega) (fun h => ?_) (fun h => by cases h)
    refine Tri.seqX ttok rfl (by simp <;> rfl) ?_
    have : deliverW w i = ((⟨[], 0, 0⟩, false), w) := by
      unfold deliverW
      by_cases h0 : 0 ≤ i
      · rw [if_pos h0, List.getElem?_eq_none (by omega)]
      · rw [if_neg h0]
    refine Tri.ret ⟨_, Gh.refl _, .inr rfl, rfl, [evAV ⟨[], 0, 0⟩, .bool false], ?_, ⟨⟨trivial, trivial, trivial, trivial⟩, trivial, trivial⟩, ?_, ?_, ?_⟩
    · show resA tt _ _ [.cell 4 30, .tmp 5] = _
      simp [evAV]
    · simp; exact Stays.new (Nat.le_refl _) (Stays.refl _ _)
    · rw [this]; rfl
    · simp [cutσ_new, hσ, this, hw.self]
end Go.Proofs.Ytilpklkgmibpgaa
