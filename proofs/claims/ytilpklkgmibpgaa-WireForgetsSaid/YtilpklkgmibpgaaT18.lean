import Derived.Test.YtilpklkgmibpgaaT17
namespace Go.Proofs.Ytilpklkgmibpgaa
open Go.Ab
set_option maxHeartbeats 400000
set_option linter.unusedVariables false
set_option linter.unusedSimpArgs false
attribute [local simp] tt3 tt4 tt9 tt22 tt24 tt30 tt31 tt36 tt42 tt55 tt57 tt63
attribute [local simp] eqA sliceEq rowsA fillR appendA AV.lt mapElem lookupA mapPutA mapDelA mapClearA lenA sliceA indexA nth buildA fillA placesA TI.zv nilEq
attribute [local simp] List.filter_cons


theorem wf_b {z : Int} (h : (Lit.int .i64 z).wf = true) : -9223372036854775808 ≤ z ∧ z ≤ 9223372036854775807 := by
  replace h : (decide (IntKind.min .i64 ≤ z) && decide (z ≤ IntKind.max .i64)) = true := h
  simp only [Bool.and_eq_true, decide_eq_true_eq] at h
  exact ⟨show (-9223372036854775808 : Int) ≤ z from h.1, show z ≤ (9223372036854775807 : Int) from h.2⟩
def mA (key : Int) : Msg := ⟨false, ⟨pay, key, 0⟩⟩
def mB (key v : Int) : Msg := ⟨true, ⟨pay, key, v⟩⟩
def wL1 (key v v1 : Int) (i : Nat) : Wire := ⟨[v, v1], 0, [(key, ⟨pay, 1, 1⟩)], List.replicate (i + 1) (mA key), [], 0⟩
def wL2 (key v v1 : Int) (n i : Nat) : Wire := ⟨[v, v1], 0, [(key, ⟨pay, 1, 1⟩)], List.replicate (n - i) (mA key) ++ List.replicate i (mB key v), (if i = 0 then [] else [⟨pay, key, v⟩]), if i = 0 then 0 else 1⟩
def wL3 (key v v1 : Int) (n i : Nat) : Wire := ⟨[v, v1], 0, (if i = 0 then [(key, ⟨pay, 1, 1⟩)] else []), List.replicate (n - i) (mB key v), [⟨pay, key, v⟩], 1⟩
section
variable {key v v1 : Int}
theorem l6a : askW ⟨[v, v1], 0, [], [], [], 0⟩ ⟨pay, key, 0⟩ = wL1 key v v1 0 := by simp [askW, hasO, wL1, mA]
theorem l6b (i : Nat) : twiceW (wL1 key v v1 i) 0 = wL1 key v v1 (i + 1) := by
  have : (List.replicate (i + 1) (mA key))[0]? = some (mA key) := by simp
  simp [twiceW, wL1, List.replicate_succ' (n := i + 1)]
theorem l6c (m : Nat) : wL1 key v v1 m = wL2 key v v1 (m + 1) 0 := by simp [wL1, wL2]
theorem drop_head {w : Wire} {m : Msg} {r : List Msg} (h : w.flight = m :: r) : dropW w 0 = { w with flight := r } := by simp [dropW, h]
theorem deliver_ask {w : Wire} {m : Msg} {r : List Msg} (h : w.flight = m :: r) (hb : m.back = false) :
    deliverW w 0 = ((⟨[], 0, 0⟩, false), { valueW { w with flight := r } m.ev with flight := (valueW { w with flight := r } m.ev).flight ++ [⟨true, ⟨m.ev.name, m.ev.key, valueOf { w with flight := r } m.ev⟩⟩] }) := by
  unfold deliverW
  rw [show (if (0 : Int) ≤ 0 then w.flight[(0 : Int).toNat]? else none) = some m by simp [h]]
  simp only [drop_head h, hb]
  rfl
theorem deliver_back {w : Wire} {m : Msg} {r : List Msg} (h : w.flight = m :: r) (hb : m.back = true) :
    deliverW w 0 = if hasO w m.ev.key then ((m.ev, true), { w with flight := r, opens := del m.ev.key w.opens }) else ((⟨[], 0, 0⟩, false), { w with flight := r }) := by
  unfold deliverW
  rw [show (if (0 : Int) ≤ 0 then w.flight[(0 : Int).toNat]? else none) = some m by simp [h]]
  simp only [drop_head h, hb, if_true]
  rfl
theorem l6d {n i : Nat} (h : i < n) : deliverW (wL2 key v v1 n i) 0 = ((⟨[], 0, 0⟩, false), wL2 key v v1 n (i + 1)) := by
  obtain ⟨d, hd⟩ : ∃ d, n - i = d + 1 := ⟨n - i - 1, by omega⟩
  have hd' : n - (i + 1) = d := by omega
  rw [deliver_ask (m := mA key) (r := List.replicate d (mA key) ++ List.replicate i (mB key v)) (by simp [wL2, hd, List.replicate_succ]) rfl]
  by_cases h0 : i = 0
  · subst h0
    simp [wL2, hd', valueW, valueOf, mA, mB]
  · simp [wL2, hd', h0, valueW, valueOf, mA, mB, List.replicate_succ' (n := i)]
theorem l6e {n : Nat} (h : 0 < n) : wL2 key v v1 n n = wL3 key v v1 n 0 := by
  have : ¬ n = 0 := by omega
  simp [wL2, wL3, this]
theorem l6f {n i : Nat} (h : i < n) : deliverW (wL3 key v v1 n i) 0 = ((if i = 0 then ⟨pay, key, v⟩ else ⟨[], 0, 0⟩, decide (i = 0)), wL3 key v v1 n (i + 1)) := by
  obtain ⟨d, hd⟩ : ∃ d, n - i = d + 1 := ⟨n - i - 1, by omega⟩
  have hd' : n - (i + 1) = d := by omega
  rw [deliver_back (m := mB key v) (r := List.replicate d (mB key v)) (by simp [wL3, hd, List.replicate_succ]) rfl]
  by_cases h0 : i = 0
  · subst h0
    simp [wL3, hd', mB, hasO, del]
  · simp [wL3, hd', h0, mB, hasO, del]
theorem len1 {i : Nat} : (wL1 key v v1 i).flight.length = i + 1 := by simp [wL1]
theorem fl3 {n i : Nat} : (wL3 key v v1 n i).flight = List.replicate (n - i) (mB key v) := rfl
theorem ap3 {n i : Nat} : (wL3 key v v1 n i).applied = [⟨pay, key, v⟩] := rfl
theorem w1 : IntKind.i64.wrap 1 = 1 := wrap_id (by omega) (by omega)
theorem wok6_0 : WOk ⟨[v, v1], 0, [], [], [], 0⟩ := ⟨by simp, by simp, by simp, by simp, by simp, by simp, by simp⟩
theorem wok6_1 (hk : -9223372036854775808 ≤ key ∧ key ≤ 9223372036854775807) {i : Nat} (hi : i ≤ 10) : WOk (wL1 key v v1 i) := ⟨by simp [wL1], by simp [wL1]; omega, by simp [wL1], by simp [wL1], by simp [wL1], by simp [wL1], by simp [wL1]; omega⟩
theorem wok6_2 (hk : -9223372036854775808 ≤ key ∧ key ≤ 9223372036854775807) {n i : Nat} (hn : n ≤ 10) (hi : i ≤ n) : WOk (wL2 key v v1 n i) := ⟨by simp [wL2], by simp [wL2]; omega, by simp only [wL2]; split <;> simp, by simp [wL2], by simp [wL2], by simp [wL2], by simp [wL2]; omega⟩
theorem wok6_3 (hk : -9223372036854775808 ≤ key ∧ key ≤ 9223372036854775807) {n i : Nat} (hn : n ≤ 10) (hi : i ≤ n) : WOk (wL3 key v v1 n i) := ⟨by simp [wL3], by simp [wL3]; omega, by simp [wL3], by simp [wL3], by simp only [wL3]; split <;> simp, by simp only [wL3]; split <;> simp, by simp only [wL3]; split <;> simp; omega⟩
end
theorem call_law6 {key v times : Int} (hk : -9223372036854775808 ≤ key ∧ key ≤ 9223372036854775807) : CallA Try.prog 6 [.int .i64 key, .int .i64 v, .int .i64 times] (fun _ => none) [] fun x _ => x = .bool true := by
  refine CallA.of ttok Try.func6 rfl (show 3 ≤ 116 by decide) fun c hF => ?_
  refine Tri.fresh (Tri.fresh (Tri.fresh ?_))
  refine Tri.seqX ttok rfl (by simp <;> rfl) ?_
  refine Tri.seq ?_
  refine Tri.seqR ttok rfl ?_
  refine OpsA.call (lknown) rfl (by simp <;> rfl) (by kernel_rfl) (by simp) rfl ?_
  rintro x σ1 ⟨rfl, rfl⟩
  refine OpsA.all (by simp <;> rfl) ?_
  refine Tri.cond (b := false) (by simp) (fun h => by cases h) (fun _ => ?_)
  refine Tri.skip ?_
  refine Tri.seqR ttok rfl ?_
  refine OpsA.runX 4 (by simp <;> rfl) ?_
  simp only [List.drop]
  refine OpsA.call (lnew (c := c) (vs := [v, (IntKind.i64.wrap (v + 1))]) (by simp)) rfl (by simp [intRow] <;> rfl) (by kernel_rfl) (by simp) rfl ?_
  rintro x σ1 ⟨rfl, rfl⟩
  refine OpsA.all (by simp <;> rfl) ?_
  refine Tri.seq ?_
  refine Tri.seqX ttok rfl (by simp <;> rfl) ?_
  refine Tri.cond (b := false) (by simp) (fun h => by cases h) (fun _ => ?_)
  refine Tri.skip ?_
  refine Tri.seqR ttok rfl ?_
  refine OpsA.runX 3 (by simp <;> rfl) ?_
  simp only [List.drop]
  refine OpsA.call (lask (e := ⟨pay, key, 0⟩) wok6_0) rfl (by simp [evAV] <;> rfl) (by kernel_rfl) (by simp) rfl ?_
  rintro x σ' ⟨rfl, rfl⟩
  rw [l6a]
  have hwb := within_bounds times (n := 6) (by omega)
  obtain ⟨m, hmw, hm6⟩ : ∃ m : Nat, within times 6 = m ∧ m < 6 := ⟨(within times 6).toNat, by omega, by omega⟩
  refine OpsA.nil ?_
  refine Tri.seq ?_
  refine Tri.seqX ttok rfl (by simp [hmw] <;> rfl) ?_
  refine Tri.block ?_
  refine Tri.loopL (α := Nat) (fun x => ({ t := tl [(0, .int .i64 key), (1, .int .i64 v), (2, .int .i64 times), (7, .ptr (c + 2) 0), (8, .int .i64 (x : Int))], σ := putL c none0 (wL1 key v (IntKind.i64.wrap (v + 1)) x), c := c + 3, fr := [], m := 116, ds := [] } : AS)) (fun x => m - x) (fun x => x ≤ m) 0 ?_ (Nat.zero_le _) ?_
  · refine Le.gh ⟨?_, ?_, ?_, ?_, ?_, ?_⟩
    · exact LeT.cons (by simp) (LeT.cons (by simp) (LeT.cons (by simp) (LeT.cons (by simp) (LeT.cons (by simp) (LeT.nil)))))
    · simp
    · simp
    · simp
    · rfl
    · rfl
  · intro i him
    refine Tri.seq ?_
    refine Tri.seqR ttok rfl ?_
    refine OpsA.runX 2 (by simp [hmw] <;> rfl) ?_
    simp only [List.drop]
    refine OpsA.call (call_within (a := times) (n := 6) (by omega) (by omega)) rfl (by simp [hmw] <;> rfl) (by kernel_rfl) (by simp) rfl ?_
    rintro x σ' ⟨rfl, rfl⟩
    rw [hmw]
    by_cases hi : i < m
    · refine OpsA.all (by simp [hmw, hi] <;> rfl) ?_
      refine Tri.cond (b := true) (by simp [hmw, hi]) (fun _ => ?_) (fun h => by cases h)
      have e7 : IntKind.i64.wrap ((i : Int) + 1) = ((i + 1 : Nat) : Int) := by rw [wrap_id (by omega) (by omega)]; omega
      refine Tri.skip ?_
      refine Tri.seq ?_
      refine Tri.block ?_
      refine Tri.seqR ttok rfl ?_
      refine OpsA.runX 1 (by simp [hmw, hi] <;> rfl) ?_
      simp only [List.drop]
      refine OpsA.call (ltwice (i := 0) (wok6_1 hk (by omega))) rfl (by simp [hmw, hi] <;> rfl) (by kernel_rfl) (by simp) rfl ?_
      rintro x σ' ⟨rfl, rfl⟩
      rw [l6b]
      refine OpsA.all (by simp [hmw, hi, len1] <;> rfl) ?_
      refine Tri.cond (b := false) (by simp [hmw, hi, len1]) (fun h => by cases h) (fun _ => ?_)
      refine Tri.skip ?_
      try simp only [thenQ, blockQ]
      refine Tri.x ttok rfl (by simp [hmw, hi, len1] <;> rfl) ?_
      exact ⟨i + 1, by omega, by omega, Le.gh ⟨LeT.cons (by simp [e7]) (LeT.cons (by simp [e7]) (LeT.cons (by simp [e7]) (LeT.cons (by simp [e7]) (LeT.cons (by simp [e7]) (LeT.nil))))), by simp, by simp, by simp, rfl, rfl⟩⟩
    · refine OpsA.all (by simp [hmw, hi] <;> rfl) ?_
      refine Tri.cond (b := false) (by simp [hmw, hi]) (fun h => by cases h) (fun _ => ?_)
      obtain rfl : i = m := by omega
      rw [l6c i]
      refine Tri.exit ?_
      try simp only [thenQ, blockQ, if_true]
      refine Tri.seqR ttok rfl ?_
      refine OpsA.runX 1 (by simp [hmw, hi] <;> rfl) ?_
      simp only [List.drop]
      refine OpsA.call (call_within (a := times) (n := 6) (by omega) (by omega)) rfl (by simp [hmw, hi] <;> rfl) (by kernel_rfl) (by simp) rfl ?_
      rintro x σ' ⟨rfl, rfl⟩
      rw [hmw]
      have e9 : IntKind.i64.wrap ((i : Int) + 1) = (i : Int) + 1 := wrap_id (by omega) (by omega)
      refine OpsA.all (by simp [hmw, hi, e9] <;> rfl) ?_
      refine Tri.seq ?_
      refine Tri.seqX ttok rfl (by simp [hmw, hi, e9] <;> rfl) ?_
      refine Tri.block ?_
      refine Tri.loopL (α := Nat) (fun x => ({ t := tl [(0, .int .i64 key), (1, .int .i64 v), (2, .int .i64 times), (7, .ptr (c + 2) 0), (9, .int .i64 ((i : Int) + 1)), (10, .int .i64 (x : Int))], σ := putL c none0 (wL2 key v (IntKind.i64.wrap (v + 1)) (i + 1) x), c := c + 3, fr := [], m := 116, ds := [] } : AS)) (fun x => i + 1 - x) (fun x => x ≤ i + 1) 0 ?_ (Nat.zero_le _) ?_
      · refine Le.gh ⟨?_, ?_, ?_, ?_, ?_, ?_⟩
        · exact LeT.cons (by simp [e9]) (LeT.cons (by simp [e9]) (LeT.cons (by simp [e9]) (LeT.cons (by simp [e9]) (LeT.cons (by simp [e9]) (LeT.cons (by simp [e9]) (LeT.nil))))))
        · simp
        · simp
        · simp
        · rfl
        · rfl
      · generalize i = m at *
        intro i him
        rcases (show (i < m + 1 ∧ (i : Int) < (m : Int) + 1) ∨ (i = m + 1 ∧ ¬ (i : Int) < (m : Int) + 1) by omega) with ⟨hi, hi'⟩ | ⟨hi, hge⟩
        · refine Tri.seq ?_
          refine Tri.seqX ttok rfl (by simp [hmw, e9, hi, hi'] <;> rfl) ?_
          refine Tri.cond (b := true) (by simp [hmw, e9, hi, hi']) (fun _ => ?_) (fun h => by cases h)
          have e7 : IntKind.i64.wrap ((i : Int) + 1) = ((i + 1 : Nat) : Int) := by rw [wrap_id (by omega) (by omega)]; omega
          refine Tri.skip ?_
          refine Tri.seq ?_
          refine Tri.block ?_
          refine Tri.region ttok rfl ?_
          refine OpsA.runX 1 (by simp [hmw, e9, hi, hi'] <;> rfl) ?_
          simp only [List.drop]
          refine OpsA.call (ldeliver (i := 0) (wok6_2 hk (by omega) (by omega))) rfl (by simp [hmw, e9, hi, hi'] <;> rfl) (by kernel_rfl) (by simp) rfl ?_
          rintro x σ' ⟨rfl, rfl⟩
          rw [l6d hi]
          refine OpsA.nil ?_
          try simp only [thenQ, blockQ]
          refine Tri.x ttok rfl (by simp [hmw, e9, hi, hi'] <;> rfl) ?_
          exact ⟨i + 1, by omega, by omega, Le.gh ⟨LeT.cons (by simp [e7]) (LeT.cons (by simp [e7]) (LeT.cons (by simp [e7]) (LeT.cons (by simp [e7]) (LeT.cons (by simp [e7]) (LeT.cons (by simp [e7]) (LeT.nil)))))), by simp, by simp, by simp, rfl, rfl⟩⟩
        · refine Tri.seq ?_
          refine Tri.seqX ttok rfl (by simp [hmw, e9, hge] <;> rfl) ?_
          refine Tri.cond (b := false) (by simp [hmw, e9, hge]) (fun h => by cases h) (fun _ => ?_)
          subst hi
          rw [l6e (by omega)]
          refine Tri.exit ?_
          try simp only [thenQ, blockQ, if_true]
          refine Tri.seqR ttok rfl ?_
          refine OpsA.runX 1 (by simp [hmw, e9, hge] <;> rfl) ?_
          simp only [List.drop]
          refine OpsA.call (lflight (wok6_3 hk (by omega) (Nat.zero_le _))) rfl (by simp [hmw, e9, hge] <;> rfl) (by kernel_rfl) (by simp) rfl ?_
          rintro x σ' ⟨rfl, rfl⟩
          refine OpsA.all (by simp [hmw, e9, hge, fl3, ap3, evRow] <;> rfl) ?_
          refine Tri.seq ?_
          refine Tri.seqR ttok rfl ?_
          refine OpsA.runG 6 (by simp [hmw, e9, hge, fl3, ap3, evRow] <;> rfl) ?_
          simp only [List.drop]
          refine OpsA.guard rfl rfl (by simp [hmw, e9, hge, fl3, ap3, evRow] <;> rfl) (fun _ => ?_) (fun h => absurd rfl h)
          refine OpsA.call (lapplied (wok6_3 hk (by omega) (Nat.zero_le _))) rfl (by simp [hmw, e9, hge, fl3, ap3, evRow] <;> rfl) (by kernel_rfl) (by simp) rfl ?_
          rintro x σ' ⟨rfl, rfl⟩
          refine OpsA.runG 5 (by simp [hmw, e9, hge, fl3, ap3, evRow] <;> rfl) ?_
          simp only [List.drop]
          refine OpsA.guard rfl rfl (by simp [hmw, e9, hge, fl3, ap3, evRow] <;> rfl) (fun _ => ?_) (fun h => absurd rfl h)
          refine OpsA.call (lapplied (wok6_3 hk (by omega) (Nat.zero_le _))) rfl (by simp [hmw, e9, hge, fl3, ap3, evRow] <;> rfl) (by kernel_rfl) (by simp) rfl ?_
          rintro x σ' ⟨rfl, rfl⟩
          refine OpsA.allG (by simp [hmw, e9, hge, fl3, ap3, evRow] <;> rfl) ?_
          refine Tri.cond (b := false) (by simp [hmw, e9, hge, fl3, ap3, evRow]) (fun h => by cases h) (fun _ => ?_)
          refine Tri.skip ?_
          refine Tri.seqX ttok rfl (by simp [hmw, e9, hge, fl3, ap3, evRow] <;> rfl) ?_
          refine Tri.seq ?_
          refine Tri.seqX ttok rfl (by simp [hmw, e9, hge, fl3, ap3, evRow] <;> rfl) ?_
          refine Tri.block ?_
          refine Tri.loopL (α := Nat × Nat) (fun x => ({ t := tl [(0, .int .i64 key), (1, .int .i64 v), (2, .int .i64 times), (7, .ptr (c + 2) 0), (9, .int .i64 ((m : Int) + 1)), (11, .sl ((List.replicate (m + 1) (mB key v)).map msgRow)), (12, .int .i64 (if x.1 = 0 then 0 else 1)), (13, .int .i64 (x.1 : Int))], σ := putL c none0 (wL3 key v (IntKind.i64.wrap (v + 1)) (m + 1) x.1), c := x.2, fr := [], m := 116, ds := [] } : AS)) (fun x => m + 1 - x.1) (fun x => x.1 ≤ m + 1 ∧ c + 3 ≤ x.2) (0, c + 3) ?_ ⟨Nat.zero_le _, Nat.le_refl _⟩ ?_
          · refine Le.gh ⟨?_, ?_, ?_, ?_, ?_, ?_⟩
            · exact LeT.cons (by simp [wL3]) (LeT.cons (by simp [wL3]) (LeT.cons (by simp [wL3]) (LeT.cons (by simp [wL3]) (LeT.cons (by simp [wL3]) (LeT.cons (by simp [wL3]) (LeT.cons (by simp [wL3]) (LeT.cons (by simp [wL3]) (LeT.nil))))))))
            · simp
            · simp
            · simp
            · rfl
            · rfl
          · rintro ⟨i, cc⟩ ⟨him, hcc⟩
            dsimp only at him hcc ⊢
            rcases (show (i < m + 1 ∧ (i : Int) < (m : Int) + 1) ∨ (i = m + 1 ∧ ¬ (i : Int) < (m : Int) + 1) by omega) with ⟨hi, hi'⟩ | ⟨hi, hge⟩
            · refine Tri.seq ?_
              refine Tri.seqX ttok rfl (by simp [hmw, e9, hi, hi'] <;> rfl) ?_
              refine Tri.cond (b := true) (by simp [hmw, e9, hi, hi']) (fun _ => ?_) (fun h => by cases h)
              refine Tri.fresh ?_
              have u := fun (σ' : Nat → Option AO) (w' : Wire) (x : Option AO) => putL_upd (c := c) (σ := σ') (w := w') (x := x) hcc
              have at1 := fun (σ' : Nat → Option AO) (w' : Wire) => putL_at (c := c) (σ := σ') (w := w') hcc
              have e7 : IntKind.i64.wrap ((i : Int) + 1) = ((i + 1 : Nat) : Int) := by rw [wrap_id (by omega) (by omega)]; omega
              refine Tri.skip ?_
              refine Tri.seq ?_
              refine Tri.block ?_
              refine Tri.seq ?_
              refine Tri.seqR ttok rfl ?_
              refine OpsA.allG (by simp [hmw, e9, hi, hi', hi, mB, msgRow, u, at1] <;> rfl) ?_
              refine Tri.cond (b := false) (by simp [hmw, e9, hi, hi', hi, mB, msgRow, u, at1]) (fun h => by cases h) (fun _ => ?_)
              refine Tri.skip ?_
              refine Tri.seqR ttok rfl ?_
              refine OpsA.runX 1 (by simp [hmw, e9, hi, hi', hi, mB, msgRow, u, at1] <;> rfl) ?_
              simp only [List.drop]
              refine OpsA.call (ldeliver (i := 0) (wok6_3 hk (by omega) (by omega))) rfl (by simp <;> rfl) (by kernel_rfl) (by simp) rfl ?_
              rintro x σ' ⟨rfl, rfl⟩
              rw [l6f hi]
              by_cases h0 : i = 0
              · refine OpsA.all (by simp [hmw, e9, hi, hi', hi, mB, msgRow, u, at1, evAV, h0] <;> rfl) ?_
                refine Tri.seqX ttok rfl (by simp [hmw, e9, hi, hi', hi, mB, msgRow, u, at1, evAV, h0] <;> rfl) ?_
                refine Tri.cond (b := true) (by simp [hmw, e9, hi, hi', hi, mB, msgRow, u, at1, evAV, h0]) (fun _ => ?_) (fun h => by cases h)
                refine Tri.x ttok rfl (by simp [hmw, e9, hi, hi', hi, mB, msgRow, u, at1, evAV, h0] <;> rfl) ?_
                try simp only [thenQ, blockQ]
                refine Tri.x ttok rfl (by simp [hmw, e9, hi, hi', hi, mB, msgRow, u, at1, evAV, h0] <;> rfl) ?_
                refine ⟨(i + 1, cc + 1), ⟨by dsimp only; omega, by dsimp only; omega⟩, by dsimp only; omega, Gh.trans (Gh.kill cc) (Le.gh ⟨LeT.cons (by simp [e7, h0, mB, msgRow, w1]) (LeT.cons (by simp [e7, h0, mB, msgRow, w1]) (LeT.cons (by simp [e7, h0, mB, msgRow, w1]) (LeT.cons (by simp [e7, h0, mB, msgRow, w1]) (LeT.cons (by simp [e7, h0, mB, msgRow, w1]) (LeT.cons (by simp [e7, h0, mB, msgRow, w1]) (LeT.cons (by simp [e7, h0, mB, msgRow, w1]) (LeT.cons (by simp [e7, h0, mB, msgRow, w1]) (LeT.nil)))))))), by simp [u, none0_kill, h0], by simp, by simp, rfl, rfl⟩)⟩
              · refine OpsA.all (by simp [hmw, e9, hi, hi', hi, mB, msgRow, u, at1, evAV, h0] <;> rfl) ?_
                refine Tri.seqX ttok rfl (by simp [hmw, e9, hi, hi', hi, mB, msgRow, u, at1, evAV, h0] <;> rfl) ?_
                refine Tri.cond (b := false) (by simp [hmw, e9, hi, hi', hi, mB, msgRow, u, at1, evAV, h0]) (fun h => by cases h) (fun _ => ?_)
                refine Tri.skip ?_
                try simp only [thenQ, blockQ]
                refine Tri.x ttok rfl (by simp [hmw, e9, hi, hi', hi, mB, msgRow, u, at1, evAV, h0] <;> rfl) ?_
                refine ⟨(i + 1, cc + 1), ⟨by dsimp only; omega, by dsimp only; omega⟩, by dsimp only; omega, Gh.trans (Gh.kill cc) (Le.gh ⟨LeT.cons (by simp [e7, h0, mB, msgRow, w1]) (LeT.cons (by simp [e7, h0, mB, msgRow, w1]) (LeT.cons (by simp [e7, h0, mB, msgRow, w1]) (LeT.cons (by simp [e7, h0, mB, msgRow, w1]) (LeT.cons (by simp [e7, h0, mB, msgRow, w1]) (LeT.cons (by simp [e7, h0, mB, msgRow, w1]) (LeT.cons (by simp [e7, h0, mB, msgRow, w1]) (LeT.cons (by simp [e7, h0, mB, msgRow, w1]) (LeT.nil)))))))), by simp [u, none0_kill, h0], by simp, by simp, rfl, rfl⟩)⟩
            · refine Tri.seq ?_
              refine Tri.seqX ttok rfl (by simp [hmw, e9, hge] <;> rfl) ?_
              refine Tri.cond (b := false) (by simp [hmw, e9, hge]) (fun h => by cases h) (fun _ => ?_)
              subst hi
              refine Tri.exit ?_
              try simp only [thenQ, blockQ, if_true]
              refine Tri.seqR ttok rfl ?_
              refine OpsA.runG 4 (by simp [hmw, e9, hge, fl3] <;> rfl) ?_
              simp only [List.drop]
              refine OpsA.guard rfl rfl (by simp [hmw, e9, hge, fl3] <;> rfl) (fun _ => ?_) (fun h => absurd rfl h)
              refine OpsA.call (lflight (wok6_3 hk (by omega) (Nat.le_refl _))) rfl (by simp [hmw, e9, hge, fl3] <;> rfl) (by kernel_rfl) (by simp) rfl ?_
              rintro x σ' ⟨rfl, rfl⟩
              refine OpsA.runG 5 (by simp [hmw, e9, hge, fl3] <;> rfl) ?_
              simp only [List.drop]
              refine OpsA.guard rfl rfl (by simp [hmw, e9, hge, fl3] <;> rfl) (fun _ => ?_) (fun h => absurd rfl h)
              refine OpsA.call (ldrop (i := 0) (wok6_3 hk (by omega) (Nat.le_refl _))) rfl (by simp [hmw, e9, hge, fl3] <;> rfl) (by kernel_rfl) (by simp) rfl ?_
              rintro x σ' ⟨rfl, rfl⟩
              rw [show dropW (wL3 key v (IntKind.i64.wrap (v + 1)) (m + 1) (m + 1)) 0 = wL3 key v (IntKind.i64.wrap (v + 1)) (m + 1) (m + 1) by simp [dropW, wL3]]
              refine OpsA.runG 4 (by simp [hmw, e9, hge, fl3] <;> rfl) ?_
              simp only [List.drop]
              refine OpsA.guard rfl rfl (by simp [hmw, e9, hge, fl3] <;> rfl) (fun _ => ?_) (fun h => absurd rfl h)
              refine OpsA.call (ltwice (i := 0) (wok6_3 hk (by omega) (Nat.le_refl _))) rfl (by simp [hmw, e9, hge, fl3] <;> rfl) (by kernel_rfl) (by simp) rfl ?_
              rintro x σ' ⟨rfl, rfl⟩
              refine OpsA.allG (by simp [hmw, e9, hge, fl3] <;> rfl) ?_
              refine Tri.ret ?_
              exact fnPost.tmp (.inr rfl) rfl (by rfl) (by simp <;> rfl) (by exact True.intro) (Stays.law fun n hn => by simp [putL_lt hn, none0_at]) (by simp [wL3])
end Go.Proofs.Ytilpklkgmibpgaa
