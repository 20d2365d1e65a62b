import Derived.Test.YtilpklkgmibpgaaT15
namespace Go.Proofs.Ytilpklkgmibpgaa
open Go.Ab
set_option maxHeartbeats 400000
set_option linter.unusedVariables false
set_option linter.unusedSimpArgs false
attribute [local simp] tt3 tt4 tt9 tt22 tt24 tt30 tt31 tt36 tt42 tt55 tt57 tt63
attribute [local simp] eqA sliceEq rowsA fillR appendA AV.lt mapElem lookupA mapPutA mapDelA mapClearA lenA sliceA indexA nth buildA fillA placesA TI.zv nilEq
attribute [local simp] List.filter_cons


/-- The wire behind i keys that were asked, applied, told. -/
def appV (vs : List Int) (i : Nat) : List Ev := (List.range i).map fun (j : Nat) => ⟨pay, (j : Int), vs.getD j 0⟩
def wV (vs : List Int) (i : Nat) : Wire := ⟨vs, 0, [], [], appV vs i, i⟩
def wV1 (vs : List Int) (i : Nat) : Wire := ⟨vs, 0, [((i : Int), ⟨pay, 1, 1⟩)], [⟨false, ⟨pay, i, 0⟩⟩], appV vs i, i⟩
def wV2 (vs : List Int) (i : Nat) : Wire := ⟨vs, 0, [((i : Int), ⟨pay, 1, 1⟩)], [⟨true, ⟨pay, i, vs.getD i 0⟩⟩], appV vs (i + 1), i + 1⟩
theorem appV_length (vs : List Int) (i : Nat) : (appV vs i).length = i := by simp [appV]
theorem appV_succ (vs : List Int) (i : Nat) : appV vs (i + 1) = appV vs i ++ [⟨pay, (i : Int), vs.getD i 0⟩] := by simp [appV, List.range_succ]
theorem appV_find (vs : List Int) (i : Nat) : (appV vs i).find? (fun a => decide (a.key = (i : Int))) = none := by
  rw [List.find?_eq_none]
  intro a ha
  simp only [appV, List.mem_map, List.mem_range] at ha
  obtain ⟨j, hj, rfl⟩ := ha
  simp; omega
theorem vs1 (vs : List Int) (i : Nat) : askW (wV vs i) ⟨pay, i, 77⟩ = wV1 vs i := by simp [askW, hasO, wV, wV1]
theorem vs2 (vs : List Int) (i : Nat) : deliverW (wV1 vs i) 0 = ((⟨[], 0, 0⟩, false), wV2 vs i) := by
  simp [deliverW, wV1, wV2, dropW, valueW, valueOf, appV_find, appV_length, appV_succ]
theorem vs3 (vs : List Int) (i : Nat) : deliverW (wV2 vs i) 0 = ((⟨pay, i, vs.getD i 0⟩, true), wV vs (i + 1)) := by
  simp [deliverW, wV2, wV, dropW, hasO, del]
theorem wokV {vs : List Int} {i : Nat} (hv : vs.length ≤ 60) (hi : i ≤ 30) : WOk (wV vs i) := ⟨by simp [wV]; omega, by simp [wV], by simp [wV, appV_length]; omega, by simp [wV], by simp [wV], by simp [wV], by simp [wV]⟩
theorem wokV1 {vs : List Int} {i : Nat} (hv : vs.length ≤ 60) (hi : i ≤ 30) : WOk (wV1 vs i) := ⟨by simp [wV1]; omega, by simp [wV1], by simp [wV1, appV_length]; omega, by simp [wV1], by simp [wV1], by simp [wV1], by simp [wV1]; omega⟩
theorem wokV2 {vs : List Int} {i : Nat} (hv : vs.length ≤ 60) (hi : i < 30) : WOk (wV2 vs i) := ⟨by simp [wV2]; omega, by simp [wV2], by simp [wV2, appV_length]; omega, by simp [wV2], by simp [wV2], by simp [wV2], by simp [wV2]; omega⟩
theorem call_law4 {vs : List Int} {n : Int} : CallA Try.prog 4 [.sl (vs.map intRow), .int .i64 n] (fun _ => none) [] fun x _ => x = .bool true := by
  refine CallA.of ttok Try.func4 rfl (show 2 ≤ 76 by decide) fun c hF => ?_
  refine Tri.fresh (Tri.fresh (Tri.fresh ?_))
  refine Tri.seqX ttok rfl (by simp <;> rfl) ?_
  refine Tri.seq ?_
  refine Tri.seqR ttok rfl ?_
  refine OpsA.call (lknown) rfl (by simp <;> rfl) (by kernel_rfl) (by simp) rfl ?_
  rintro x σ1 ⟨rfl, rfl⟩
  refine OpsA.all (by simp <;> rfl) ?_
  refine Tri.cond (b := false) (by simp) (fun h => by cases h) (fun _ => ?_)
  by_cases h60 : vs.length ≤ 60
  · refine Tri.skip ?_
    refine Tri.seq ?_
    refine Tri.seqX ttok rfl (by simp [h60, (show ¬ (60 : Int) < vs.length by omega)] <;> rfl) ?_
    refine Tri.cond (b := false) (by simp [h60, (show ¬ (60 : Int) < vs.length by omega)]) (fun h => by cases h) (fun _ => ?_)
    refine Tri.skip ?_
    refine Tri.seqR ttok rfl ?_
    refine OpsA.runX 1 (by simp <;> rfl) ?_
    simp only [List.drop]
    refine OpsA.call (lnew (c := c) (vs := vs) (by omega)) rfl (by simp <;> rfl) (by kernel_rfl) (by simp) rfl ?_
    rintro x σ1 ⟨rfl, rfl⟩
    refine OpsA.all (by simp <;> rfl) ?_
    refine Tri.seq ?_
    refine Tri.seqX ttok rfl (by simp <;> rfl) ?_
    refine Tri.cond (b := false) (by simp) (fun h => by cases h) (fun _ => ?_)
    have hwb := within_bounds n (n := 30) (by omega)
    obtain ⟨k, hk, hk30⟩ : ∃ k : Nat, within n 30 = k ∧ k < 30 := ⟨(within n 30).toNat, by omega, by omega⟩
    refine Tri.skip ?_
    refine Tri.seqR ttok rfl ?_
    refine OpsA.runX 1 (by simp <;> rfl) ?_
    simp only [List.drop]
    refine OpsA.call (call_within (a := n) (n := 30) (by omega) (by omega)) rfl (by simp <;> rfl) (by kernel_rfl) (by simp) rfl ?_
    rintro x σ' ⟨rfl, rfl⟩
    rw [hk]
    refine OpsA.all (by simp <;> rfl) ?_
    refine Tri.seq ?_
    refine Tri.seqX ttok rfl (by simp <;> rfl) ?_
    refine Tri.block ?_
    refine Tri.loopL (α := Nat × Nat) (fun x => ({ t := tl [(0, .sl (vs.map intRow)), (5, .ptr (c + 2) 0), (6, .int .i64 (k : Int)), (7, .int .i64 x.1)], σ := putL c none0 (wV vs x.1), c := x.2, fr := [], m := 76, ds := [] } : AS)) (fun x => k - x.1) (fun x => x.1 ≤ k ∧ c + 3 ≤ x.2) (0, c + 3) ?_ ⟨Nat.zero_le _, Nat.le_refl _⟩ ?_
    · refine Le.gh ⟨?_, ?_, ?_, ?_, ?_, ?_⟩
      · exact LeT.cons (by simp) (LeT.cons (by simp) (LeT.cons (by simp) (LeT.cons (by simp) (LeT.nil))))
      · simp [wV, appV]
      · simp
      · simp
      · rfl
      · rfl
    · rintro ⟨i, cc⟩ ⟨hik, hcc⟩
      dsimp only at hik hcc ⊢
      by_cases hi : i < k
      · refine Tri.seq ?_
        refine Tri.seqX ttok rfl (by simp [hi] <;> rfl) ?_
        refine Tri.cond (b := true) (by simp [hi]) (fun _ => ?_) (fun h => by cases h)
        refine Tri.fresh ?_
        have u := fun (σ' : Nat → Option AO) (w' : Wire) (x : Option AO) => putL_upd (c := c) (σ := σ') (w := w') (x := x) hcc
        have at' := fun (σ' : Nat → Option AO) (w' : Wire) => putL_at (c := c) (σ := σ') (w := w') hcc
        have e7 : IntKind.i64.wrap ((i : Int) + 1) = ((i + 1 : Nat) : Int) := by rw [wrap_id (by omega) (by omega)]; omega
        refine Tri.skip ?_
        refine Tri.seq ?_
        refine Tri.block ?_
        refine Tri.seqR ttok rfl ?_
        refine OpsA.runX 3 (by simp [u, at', none0_at, intRow, evAV, pay] <;> rfl) ?_
        simp only [List.drop]
        refine OpsA.call (lask (e := ⟨pay, i, 77⟩) (wokV h60 (by omega))) rfl (by simp [u, at', none0_at, intRow, evAV, pay] <;> rfl) (by kernel_rfl) (by simp) rfl ?_
        rintro x σ' ⟨rfl, rfl⟩
        rw [vs1]
        refine OpsA.nil ?_
        refine Tri.seqR ttok rfl ?_
        refine OpsA.runX 1 (by simp [u, at', none0_at, intRow, evAV, pay] <;> rfl) ?_
        simp only [List.drop]
        refine OpsA.call (ldeliver (i := 0) (wokV1 h60 (by omega))) rfl (by simp <;> rfl) (by kernel_rfl) (by simp) rfl ?_
        rintro x σ' ⟨rfl, rfl⟩
        rw [vs2]
        refine OpsA.nil ?_
        refine Tri.seqR ttok rfl ?_
        refine OpsA.runX 1 (by simp [u, at', none0_at, intRow, evAV, pay] <;> rfl) ?_
        simp only [List.drop]
        refine OpsA.call (ldeliver (i := 0) (wokV2 h60 (by omega))) rfl (by simp <;> rfl) (by kernel_rfl) (by simp) rfl ?_
        rintro x σ' ⟨rfl, rfl⟩
        rw [vs3]
        by_cases hv : i < vs.length
        · refine OpsA.all (by simp [u, at', none0_at, intRow, evAV, pay, hv, (show vs.getD i 0 = vs[i] by simp [List.getD, hv])] <;> rfl) ?_
          refine Tri.seqX ttok rfl (by simp [u, at', none0_at, intRow, evAV, pay, hv, (show vs.getD i 0 = vs[i] by simp [List.getD, hv])] <;> rfl) ?_
          refine Tri.seq ?_
          refine Tri.seqX ttok rfl (by simp [u, at', none0_at, intRow, evAV, pay, hv, (show vs.getD i 0 = vs[i] by simp [List.getD, hv])] <;> rfl) ?_
          refine Tri.cond (b := true) (by simp [u, at', none0_at, intRow, evAV, pay, hv, (show vs.getD i 0 = vs[i] by simp [List.getD, hv])]) (fun _ => ?_) (fun h => by cases h)
          refine Tri.x ttok rfl (by simp [u, at', none0_at, intRow, evAV, pay, hv, (show vs.getD i 0 = vs[i] by simp [List.getD, hv])] <;> rfl) ?_
          refine Tri.seqR ttok rfl ?_
          refine OpsA.allG (by simp [u, at', none0_at, intRow, evAV, pay, hv, (show vs.getD i 0 = vs[i] by simp [List.getD, hv])] <;> rfl) ?_
          refine Tri.cond (b := false) (by simp [u, at', none0_at, intRow, evAV, pay, hv, (show vs.getD i 0 = vs[i] by simp [List.getD, hv])]) (fun h => by cases h) (fun _ => ?_)
          refine Tri.skip ?_
          try simp only [thenQ, blockQ]
          refine Tri.x ttok rfl (by simp [u, at', none0_at, intRow, evAV, pay, hv, (show vs.getD i 0 = vs[i] by simp [List.getD, hv])] <;> rfl) ?_
          refine ⟨(i + 1, cc + 1), ⟨by dsimp only; omega, by dsimp only; omega⟩, by dsimp only; omega, Gh.trans (Gh.kill cc) (Le.gh ⟨LeT.cons (by simp [e7]) (LeT.cons (by simp [e7]) (LeT.cons (by simp [e7]) (LeT.cons (by simp [e7]) (LeT.nil)))), by simp [u, none0_kill], by simp, by simp, rfl, rfl⟩)⟩
        · refine OpsA.all (by simp [u, at', none0_at, intRow, evAV, pay, hv, (show vs.getD i 0 = 0 by simp [List.getD, List.getElem?_eq_none (show vs.length ≤ i by omega)])] <;> rfl) ?_
          refine Tri.seqX ttok rfl (by simp [u, at', none0_at, intRow, evAV, pay, hv, (show vs.getD i 0 = 0 by simp [List.getD, List.getElem?_eq_none (show vs.length ≤ i by omega)])] <;> rfl) ?_
          refine Tri.seq ?_
          refine Tri.seqX ttok rfl (by simp [u, at', none0_at, intRow, evAV, pay, hv, (show vs.getD i 0 = 0 by simp [List.getD, List.getElem?_eq_none (show vs.length ≤ i by omega)])] <;> rfl) ?_
          refine Tri.cond (b := false) (by simp [u, at', none0_at, intRow, evAV, pay, hv, (show vs.getD i 0 = 0 by simp [List.getD, List.getElem?_eq_none (show vs.length ≤ i by omega)])]) (fun h => by cases h) (fun _ => ?_)
          refine Tri.skip ?_
          refine Tri.seqR ttok rfl ?_
          refine OpsA.allG (by simp [u, at', none0_at, intRow, evAV, pay, hv, (show vs.getD i 0 = 0 by simp [List.getD, List.getElem?_eq_none (show vs.length ≤ i by omega)])] <;> rfl) ?_
          refine Tri.cond (b := false) (by simp [u, at', none0_at, intRow, evAV, pay, hv, (show vs.getD i 0 = 0 by simp [List.getD, List.getElem?_eq_none (show vs.length ≤ i by omega)])]) (fun h => by cases h) (fun _ => ?_)
          refine Tri.skip ?_
          try simp only [thenQ, blockQ]
          refine Tri.x ttok rfl (by simp [u, at', none0_at, intRow, evAV, pay, hv, (show vs.getD i 0 = 0 by simp [List.getD, List.getElem?_eq_none (show vs.length ≤ i by omega)])] <;> rfl) ?_
          refine ⟨(i + 1, cc + 1), ⟨by dsimp only; omega, by dsimp only; omega⟩, by dsimp only; omega, Gh.trans (Gh.kill cc) (Le.gh ⟨LeT.cons (by simp [e7]) (LeT.cons (by simp [e7]) (LeT.cons (by simp [e7]) (LeT.cons (by simp [e7]) (LeT.nil)))), by simp [u, none0_kill], by simp, by simp, rfl, rfl⟩)⟩
      · refine Tri.seq ?_
        refine Tri.seqX ttok rfl (by simp [hi, (show i = k by omega)] <;> rfl) ?_
        refine Tri.cond (b := false) (by simp [hi, (show i = k by omega)]) (fun h => by cases h) (fun _ => ?_)
        refine Tri.exit ?_
        try simp only [thenQ, blockQ, if_true]
        refine Tri.seqR ttok rfl ?_
        refine OpsA.runG 1 (by simp [hi, (show i = k by omega), wV, appV_length] <;> rfl) ?_
        simp only [List.drop]
        refine OpsA.call (lapplied (wokV h60 (by omega))) rfl (by simp [hi, (show i = k by omega), wV, appV_length] <;> rfl) (by kernel_rfl) (by simp) rfl ?_
        rintro x σ' ⟨rfl, rfl⟩
        refine OpsA.runG 5 (by simp [hi, (show i = k by omega), wV, appV_length] <;> rfl) ?_
        simp only [List.drop]
        refine OpsA.guard rfl rfl (by simp [hi, (show i = k by omega), wV, appV_length] <;> rfl) (fun _ => ?_) (fun h => absurd rfl h)
        refine OpsA.call (lflight (wokV h60 (by omega))) rfl (by simp [hi, (show i = k by omega), wV, appV_length, wV, appV_length] <;> rfl) (by kernel_rfl) (by simp) rfl ?_
        rintro x σ' ⟨rfl, rfl⟩
        refine OpsA.allG (by simp [hi, (show i = k by omega), wV, appV_length, wV, appV_length, hik] <;> rfl) ?_
        refine Tri.ret ?_
        exact fnPost.tmp (.inr rfl) rfl (by rfl) (by simp [wV, appV_length] <;> rfl) (by exact True.intro) (Stays.law fun n hn => by simp [putL_lt hn, none0_at]) (by simp [wV, appV_length])
  · refine Tri.skip ?_
    refine Tri.seq ?_
    refine Tri.seqX ttok rfl (by simp [h60, (show (60 : Int) < vs.length by omega)] <;> rfl) ?_
    refine Tri.cond (b := true) (by simp [h60, (show (60 : Int) < vs.length by omega)]) (fun _ => ?_) (fun h => by cases h)
    refine Tri.seqX ttok rfl (by simp [h60, (show (60 : Int) < vs.length by omega)] <;> rfl) ?_
    refine Tri.ret ?_
    exact fnPost.tmp (.inr rfl) rfl (by rfl) (by simp <;> rfl) (by exact True.intro) (Stays.law fun n hn => by simp [none0_at]) rfl
end Go.Proofs.Ytilpklkgmibpgaa
