import Derived.Test.YtilpklkgmibpgaaT18
import Derived.Test.YtilpklkgmibpgaaT20
namespace Go.Proofs.Ytilpklkgmibpgaa
open Go.Ab
set_option maxHeartbeats 400000
set_option linter.unusedVariables false
set_option linter.unusedSimpArgs false
attribute [local simp] tt3 tt4 tt9 tt22 tt24 tt30 tt31 tt36 tt42 tt55 tt57 tt63
attribute [local simp] eqA sliceEq rowsA fillR appendA AV.lt mapElem lookupA mapPutA mapDelA mapClearA lenA sliceA indexA nth buildA fillA placesA TI.zv nilEq fieldOfA
attribute [local simp] List.filter_cons


theorem tickW_none {w : Wire} (h : w.opens = []) : tickW w = { w with clock := w.clock + 1 } := by
  unfold tickW
  rw [show sortedKeys w = [] by simp [sortedKeys, h]]
  rfl
section
variable {c : Nat} {σ : Nat → Option AO} {w : Wire}
theorem ltick (h : WOk w) (hwt : ∀ p ∈ w.opens, 0 ≤ p.2.wait ∧ p.2.wait ≤ 8) (hf : w.flight.length + w.opens.length ≤ 900000) : CallA Try.prog 25 [.ptr (c + 2) 0] (putL c σ w) [] fun x σ' => x = .tup [] ∧ σ' = putL c σ (tickW w) :=
  (call_tick25 (h.isW c σ) h.keys hwt hf (by have := h.ck; omega)).mono fun x σ' ⟨h1, h2⟩ => ⟨h1, h2.trans putL_put⟩
end
theorem fr6 (c : Nat) : ([c + 5, c + 4, c + 3, c + 2, c + 1, c].filter fun n => !([c + 2, c + 1, c] : List Nat).contains n) = [c + 5, c + 4, c + 3] := by
  simp [List.filter_cons, show ¬ c + 5 = c by omega, show ¬ c + 4 = c by omega, show ¬ c + 3 = c by omega, show ¬ c + 2 = c by omega]
theorem call_law8 {ticks : Int} {ap : Bool} : CallA Try.prog 8 [.int .i64 ticks, .bool ap] (fun _ => none) [] fun x _ => x = .bool true := by
  refine CallA.of ttok Try.func8 rfl (show 2 ≤ 79 by decide) fun c hF => ?_
  refine Tri.fresh (Tri.fresh (Tri.fresh (Tri.fresh (Tri.fresh (Tri.fresh ?_)))))
  refine Tri.seqX ttok rfl (by simp <;> rfl) ?_
  refine Tri.seq ?_
  refine Tri.seqR ttok rfl ?_
  refine OpsA.call (lknown) rfl (by simp <;> rfl) (by kernel_rfl) (by simp) rfl ?_
  rintro x σ1 ⟨rfl, rfl⟩
  refine OpsA.all (by simp <;> rfl) ?_
  refine Tri.cond (b := false) (by simp) (fun h => by cases h) (fun _ => ?_)
  refine Tri.skip ?_
  refine Tri.seqR ttok rfl ?_
  refine OpsA.runX 1 (by simp <;> rfl) ?_
  simp only [List.drop]
  refine OpsA.call (lnew (c := c) (vs := [6]) (by simp)) rfl (by simp [intRow] <;> rfl) (by kernel_rfl) (by simp) (fr6 c) ?_
  rintro x σ1 ⟨rfl, rfl⟩
  refine OpsA.all (by simp <;> rfl) ?_
  refine Tri.seq ?_
  refine Tri.seqX ttok rfl (by simp <;> rfl) ?_
  refine Tri.cond (b := false) (by simp) (fun h => by cases h) (fun _ => ?_)
  have u3 := fun (σ' : Nat → Option AO) (w' : Wire) (x : Option AO) => putL_upd (c := c) (σ := σ') (w := w') (x := x) (show c + 3 ≤ c + 3 by omega)
  have at3 := fun (σ' : Nat → Option AO) (w' : Wire) => putL_at (c := c) (σ := σ') (w := w') (show c + 3 ≤ c + 3 by omega)
  have u4 := fun (σ' : Nat → Option AO) (w' : Wire) (x : Option AO) => putL_upd (c := c) (σ := σ') (w := w') (x := x) (show c + 3 ≤ c + 4 by omega)
  have at4 := fun (σ' : Nat → Option AO) (w' : Wire) => putL_at (c := c) (σ := σ') (w := w') (show c + 3 ≤ c + 4 by omega)
  have u5 := fun (σ' : Nat → Option AO) (w' : Wire) (x : Option AO) => putL_upd (c := c) (σ := σ') (w := w') (x := x) (show c + 3 ≤ c + 5 by omega)
  have at5 := fun (σ' : Nat → Option AO) (w' : Wire) => putL_at (c := c) (σ := σ') (w := w') (show c + 3 ≤ c + 5 by omega)
  have hwb := within_bounds ticks (n := 30) (by omega)
  obtain ⟨m, hmw, hm30⟩ : ∃ m : Nat, within ticks 30 = m ∧ m < 30 := ⟨(within ticks 30).toNat, by omega, by omega⟩
  cases ap
  · refine Tri.skip ?_
    refine Tri.seqX ttok rfl (by simp [at3, at4, at5, u3, u4, u5, evAV] <;> rfl) ?_
    refine Tri.seqR ttok rfl ?_
    refine OpsA.runX 2 (by simp [at3, at4, at5, u3, u4, u5, evAV] <;> rfl) ?_
    simp only [List.drop]
    refine OpsA.call (lask (e := ⟨pay, 2, 0⟩) ⟨by simp, by simp, by simp, by simp, by simp, by simp, by simp⟩) rfl (by simp [at3, at4, at5, u3, u4, u5, evAV, evAV] <;> rfl) (by kernel_rfl) (by simp) rfl ?_
    rintro x σ' ⟨rfl, rfl⟩
    rw [show askW ⟨[6], 0, [], [], [], 0⟩ ⟨pay, 2, 0⟩ = ⟨[6], 0, [(2, ⟨pay, 1, 1⟩)], [⟨false, ⟨pay, 2, 0⟩⟩], [], 0⟩ from rfl]
    refine OpsA.nil ?_
    refine Tri.seq ?_
    refine Tri.seqX ttok rfl (by simp [at3, at4, at5, u3, u4, u5, evAV] <;> rfl) ?_
    refine Tri.cond (b := false) (by simp [at3, at4, at5, u3, u4, u5, evAV]) (fun h => by cases h) (fun _ => ?_)
    refine Tri.skip ?_
    refine Tri.seqR ttok rfl ?_
    refine OpsA.runX 1 (by simp [at3, at4, at5, u3, u4, u5, evAV] <;> rfl) ?_
    simp only [List.drop]
    refine OpsA.call (lforget (k := 2) ⟨by simp, by simp, by simp, by simp, by simp, by simp, by simp⟩) rfl (by simp [at3, at4, at5, u3, u4, u5, evAV] <;> rfl) (by kernel_rfl) (by simp) rfl ?_
    rintro x σ' ⟨rfl, rfl⟩
    rw [show forgetW ⟨[6], 0, [(2, ⟨pay, 1, 1⟩)], [⟨false, ⟨pay, 2, 0⟩⟩], [], 0⟩ 2 = ⟨[6], 0, [], [⟨false, ⟨pay, 2, 0⟩⟩], [], 0⟩ from rfl]
    refine OpsA.nil ?_
    refine Tri.seqR ttok rfl ?_
    refine OpsA.runX 1 (by simp [at3, at4, at5, u3, u4, u5, evAV] <;> rfl) ?_
    simp only [List.drop]
    refine OpsA.call (lflight ⟨by simp, by simp, by simp, by simp, by simp, by simp, by simp⟩) rfl (by simp [at3, at4, at5, u3, u4, u5, evAV] <;> rfl) (by kernel_rfl) (by simp) rfl ?_
    rintro x σ' ⟨rfl, rfl⟩
    refine OpsA.all (by simp [at3, at4, at5, u3, u4, u5, evAV] <;> rfl) ?_
    refine Tri.seq ?_
    refine Tri.seqX ttok rfl (by simp [at3, at4, at5, u3, u4, u5, evAV] <;> rfl) ?_
    refine Tri.block ?_
    refine Tri.loopL (α := Nat) (fun x => ({ t := tl [(0, .int .i64 ticks), (1, .bool false), (5, .ptr (c + 2) 0), (6, .ptr (c + 5) 0), (7, .int .i64 1), (8, .int .i64 (x : Int))], σ := putL c (upd none0 (c + 5) (some (.cells 30 [.str [112, 97, 121], .int .i64 2, .int .i64 0]))) ⟨[6], (x : Int), [], [⟨false, ⟨pay, 2, 0⟩⟩], [], 0⟩, c := c + 6, fr := [c + 4, c + 3], m := 79, ds := [] } : AS)) (fun x => m - x) (fun x => x ≤ m) 0 ?_ (Nat.zero_le _) ?_
    · refine Le.gh ⟨?_, ?_, ?_, ?_, ?_, ?_⟩
      · exact LeT.cons (by simp) (LeT.cons (by simp) (LeT.cons (by simp) (LeT.cons (by simp) (LeT.cons (by simp) (LeT.cons (by simp) (LeT.nil))))))
      · simp [u5]
      · simp
      · simp
      · rfl
      · rfl
    · intro i him
      refine Tri.seq ?_
      refine Tri.seqR ttok rfl ?_
      refine OpsA.runX 2 (by simp [at3, at4, at5, u3, u4, u5, evAV] <;> rfl) ?_
      simp only [List.drop]
      refine OpsA.call (call_within (a := ticks) (n := 30) (by omega) (by omega)) rfl (by simp [at3, at4, at5, u3, u4, u5, evAV] <;> rfl) (by kernel_rfl) (by simp) rfl ?_
      rintro x σ' ⟨rfl, rfl⟩
      rw [hmw]
      by_cases hi : i < m
      · refine OpsA.all (by simp [at3, at4, at5, u3, u4, u5, evAV, hi] <;> rfl) ?_
        refine Tri.cond (b := true) (by simp [at3, at4, at5, u3, u4, u5, evAV, hi]) (fun _ => ?_) (fun h => by cases h)
        have e7 : IntKind.i64.wrap ((i : Int) + 1) = ((i + 1 : Nat) : Int) := by rw [wrap_id (by omega) (by omega)]; omega
        refine Tri.skip ?_
        refine Tri.seq ?_
        refine Tri.block ?_
        refine Tri.region ttok rfl ?_
        refine OpsA.runX 1 (by simp [at3, at4, at5, u3, u4, u5, evAV, hi] <;> rfl) ?_
        simp only [List.drop]
        refine OpsA.call (ltick (w := ⟨[6], (i : Int), [], [⟨false, ⟨pay, 2, 0⟩⟩], [], 0⟩) ⟨by simp, by simp, by simp, by dsimp only; omega, by simp, by simp, by simp⟩ (by simp) (by simp)) rfl (by simp [at3, at4, at5, u3, u4, u5, evAV, hi] <;> rfl) (by kernel_rfl) (by simp) rfl ?_
        rintro x σ' ⟨rfl, rfl⟩
        rw [tickW_none (w := ⟨[6], (i : Int), [], [⟨false, ⟨pay, 2, 0⟩⟩], [], 0⟩) rfl]
        refine OpsA.nil ?_
        try simp only [thenQ, blockQ]
        refine Tri.x ttok rfl (by simp [at3, at4, at5, u3, u4, u5, evAV, hi] <;> rfl) ?_
        exact ⟨i + 1, by omega, by omega, Le.gh ⟨LeT.cons (by simp [e7]) (LeT.cons (by simp [e7]) (LeT.cons (by simp [e7]) (LeT.cons (by simp [e7]) (LeT.cons (by simp [e7]) (LeT.cons (by simp [e7]) (LeT.nil)))))), by simp, by simp, by simp, rfl, rfl⟩⟩
      · refine OpsA.all (by simp [at3, at4, at5, u3, u4, u5, evAV, hi] <;> rfl) ?_
        refine Tri.cond (b := false) (by simp [at3, at4, at5, u3, u4, u5, evAV, hi]) (fun h => by cases h) (fun _ => ?_)
        skip
        refine Tri.exit ?_
        try simp only [thenQ, blockQ, if_true]
        refine Tri.seq ?_
        refine Tri.seqR ttok rfl ?_
        refine OpsA.runG 1 (by simp [at3, at4, at5, u3, u4, u5, evAV, hi] <;> rfl) ?_
        simp only [List.drop]
        refine OpsA.call (lflight ⟨by simp, by simp, by simp, by dsimp only; omega, by simp, by simp, by simp⟩) rfl (by simp [at3, at4, at5, u3, u4, u5, evAV, hi] <;> rfl) (by kernel_rfl) (by simp) rfl ?_
        rintro x σ' ⟨rfl, rfl⟩
        refine OpsA.allG (by simp [at3, at4, at5, u3, u4, u5, evAV, hi] <;> rfl) ?_
        refine Tri.cond (b := false) (by simp [at3, at4, at5, u3, u4, u5, evAV, hi]) (fun h => by cases h) (fun _ => ?_)
        refine Tri.skip ?_
        refine Tri.seq ?_
        refine Tri.seqX ttok rfl (by simp [at3, at4, at5, u3, u4, u5, evAV, hi] <;> rfl) ?_
        refine Tri.cond (b := false) (by simp [at3, at4, at5, u3, u4, u5, evAV, hi]) (fun h => by cases h) (fun _ => ?_)
        refine Tri.region ttok rfl ?_
        refine OpsA.runX 1 (by simp [at3, at4, at5, u3, u4, u5, evAV, hi] <;> rfl) ?_
        simp only [List.drop]
        refine OpsA.call (ldrop (i := 0) ⟨by simp, by simp, by simp, by dsimp only; omega, by simp, by simp, by simp⟩) rfl (by simp [at3, at4, at5, u3, u4, u5, evAV, hi] <;> rfl) (by kernel_rfl) (by simp) rfl ?_
        rintro x σ' ⟨rfl, rfl⟩
        rw [show dropW ⟨[6], (i : Int), [], [⟨false, ⟨pay, 2, 0⟩⟩], [], 0⟩ 0 = ⟨[6], (i : Int), [], [], [], 0⟩ from rfl]
        refine OpsA.nil ?_
        refine Tri.seqR ttok rfl ?_
        refine OpsA.runX 2 (by simp [at3, at4, at5, u3, u4, u5, evAV, hi] <;> rfl) ?_
        simp only [List.drop]
        refine OpsA.call (lask (e := ⟨pay, 2, 0⟩) ⟨by simp, by simp, by simp, by dsimp only; omega, by simp, by simp, by simp⟩) rfl (by simp [at3, at4, at5, u3, u4, u5, evAV, hi, evAV] <;> rfl) (by kernel_rfl) (by simp) rfl ?_
        rintro x σ' ⟨rfl, rfl⟩
        rw [show askW ⟨[6], (i : Int), [], [], [], 0⟩ ⟨pay, 2, 0⟩ = ⟨[6], (i : Int), [(2, ⟨pay, (i : Int) + 1, 1⟩)], [⟨false, ⟨pay, 2, 0⟩⟩], [], 0⟩ from rfl]
        refine OpsA.nil ?_
        refine Tri.seqR ttok rfl ?_
        refine OpsA.runX 1 (by simp [at3, at4, at5, u3, u4, u5, evAV, hi] <;> rfl) ?_
        simp only [List.drop]
        refine OpsA.call (ldeliver (i := 0) ⟨by simp, by simp, by simp, by dsimp only; omega, by simp, by simp, by simp⟩) rfl (by simp [at3, at4, at5, u3, u4, u5, evAV, hi] <;> rfl) (by kernel_rfl) (by simp) rfl ?_
        rintro x σ' ⟨rfl, rfl⟩
        rw [show deliverW ⟨[6], (i : Int), [(2, ⟨pay, (i : Int) + 1, 1⟩)], [⟨false, ⟨pay, 2, 0⟩⟩], [], 0⟩ 0 = ((⟨[], 0, 0⟩, false), ⟨[6], (i : Int), [(2, ⟨pay, (i : Int) + 1, 1⟩)], [⟨true, ⟨pay, 2, 6⟩⟩], [⟨pay, 2, 6⟩], 1⟩) from rfl]
        refine OpsA.nil ?_
        refine Tri.seqR ttok rfl ?_
        refine OpsA.runX 1 (by simp [at3, at4, at5, u3, u4, u5, evAV, hi] <;> rfl) ?_
        simp only [List.drop]
        refine OpsA.call (ldeliver (i := 0) ⟨by simp, by simp, by simp, by dsimp only; omega, by simp, by simp, by simp⟩) rfl (by simp [at3, at4, at5, u3, u4, u5, evAV, hi] <;> rfl) (by kernel_rfl) (by simp) rfl ?_
        rintro x σ' ⟨rfl, rfl⟩
        rw [show deliverW ⟨[6], (i : Int), [(2, ⟨pay, (i : Int) + 1, 1⟩)], [⟨true, ⟨pay, 2, 6⟩⟩], [⟨pay, 2, 6⟩], 1⟩ 0 = ((⟨pay, 2, 6⟩, true), ⟨[6], (i : Int), [], [], [⟨pay, 2, 6⟩], 1⟩) from rfl]
        refine OpsA.all (by simp [at3, at4, at5, u3, u4, u5, evAV, hi] <;> rfl) ?_
        refine Tri.seqR ttok rfl ?_
        refine OpsA.runG 8 (by simp [at3, at4, at5, u3, u4, u5, evAV, hi] <;> rfl) ?_
        simp only [List.drop]
        refine OpsA.guard rfl rfl (by simp [at3, at4, at5, u3, u4, u5, evAV, hi] <;> rfl) (fun _ => ?_) (fun h => absurd rfl h)
        refine OpsA.call (lapplied ⟨by simp, by simp, by simp, by dsimp only; omega, by simp, by simp, by simp⟩) rfl (by simp [at3, at4, at5, u3, u4, u5, evAV, hi] <;> rfl) (by kernel_rfl) (by simp) rfl ?_
        rintro x σ' ⟨rfl, rfl⟩
        refine OpsA.allG (by simp [at3, at4, at5, u3, u4, u5, evAV, hi] <;> rfl) ?_
        refine Tri.ret ?_
        exact fnPost.tmp (.inr rfl) rfl (by rfl) (by simp <;> rfl) (by exact True.intro) (Stays.law fun n hn => by simp only [σ_put, σ_with, u3, u4, u5]; rw [putL_lt hn]; simp [none0_at, show n ≠ c + 3 by omega, show n ≠ c + 4 by omega, show n ≠ c + 5 by omega]) rfl
  · refine Tri.skip ?_
    refine Tri.seqX ttok rfl (by simp [at3, at4, at5, u3, u4, u5, evAV] <;> rfl) ?_
    refine Tri.seqR ttok rfl ?_
    refine OpsA.runX 2 (by simp [at3, at4, at5, u3, u4, u5, evAV] <;> rfl) ?_
    simp only [List.drop]
    refine OpsA.call (lask (e := ⟨pay, 2, 0⟩) ⟨by simp, by simp, by simp, by simp, by simp, by simp, by simp⟩) rfl (by simp [at3, at4, at5, u3, u4, u5, evAV, evAV] <;> rfl) (by kernel_rfl) (by simp) rfl ?_
    rintro x σ' ⟨rfl, rfl⟩
    rw [show askW ⟨[6], 0, [], [], [], 0⟩ ⟨pay, 2, 0⟩ = ⟨[6], 0, [(2, ⟨pay, 1, 1⟩)], [⟨false, ⟨pay, 2, 0⟩⟩], [], 0⟩ from rfl]
    refine OpsA.nil ?_
    refine Tri.seq ?_
    refine Tri.seqX ttok rfl (by simp [at3, at4, at5, u3, u4, u5, evAV] <;> rfl) ?_
    refine Tri.cond (b := true) (by simp [at3, at4, at5, u3, u4, u5, evAV]) (fun _ => ?_) (fun h => by cases h)
    refine Tri.region ttok rfl ?_
    refine OpsA.runX 1 (by simp [at3, at4, at5, u3, u4, u5, evAV] <;> rfl) ?_
    simp only [List.drop]
    refine OpsA.call (ldeliver (i := 0) ⟨by simp, by simp, by simp, by simp, by simp, by simp, by simp⟩) rfl (by simp [at3, at4, at5, u3, u4, u5, evAV] <;> rfl) (by kernel_rfl) (by simp) rfl ?_
    rintro x σ' ⟨rfl, rfl⟩
    rw [show deliverW ⟨[6], 0, [(2, ⟨pay, 1, 1⟩)], [⟨false, ⟨pay, 2, 0⟩⟩], [], 0⟩ 0 = ((⟨[], 0, 0⟩, false), ⟨[6], 0, [(2, ⟨pay, 1, 1⟩)], [⟨true, ⟨pay, 2, 6⟩⟩], [⟨pay, 2, 6⟩], 1⟩) from rfl]
    refine OpsA.nil ?_
    refine Tri.seqR ttok rfl ?_
    refine OpsA.runX 1 (by simp [at3, at4, at5, u3, u4, u5, evAV] <;> rfl) ?_
    simp only [List.drop]
    refine OpsA.call (lforget (k := 2) ⟨by simp, by simp, by simp, by simp, by simp, by simp, by simp⟩) rfl (by simp [at3, at4, at5, u3, u4, u5, evAV] <;> rfl) (by kernel_rfl) (by simp) rfl ?_
    rintro x σ' ⟨rfl, rfl⟩
    rw [show forgetW ⟨[6], 0, [(2, ⟨pay, 1, 1⟩)], [⟨true, ⟨pay, 2, 6⟩⟩], [⟨pay, 2, 6⟩], 1⟩ 2 = ⟨[6], 0, [], [⟨true, ⟨pay, 2, 6⟩⟩], [⟨pay, 2, 6⟩], 1⟩ from rfl]
    refine OpsA.nil ?_
    refine Tri.seqR ttok rfl ?_
    refine OpsA.runX 1 (by simp [at3, at4, at5, u3, u4, u5, evAV] <;> rfl) ?_
    simp only [List.drop]
    refine OpsA.call (lflight ⟨by simp, by simp, by simp, by simp, by simp, by simp, by simp⟩) rfl (by simp [at3, at4, at5, u3, u4, u5, evAV] <;> rfl) (by kernel_rfl) (by simp) rfl ?_
    rintro x σ' ⟨rfl, rfl⟩
    refine OpsA.all (by simp [at3, at4, at5, u3, u4, u5, evAV] <;> rfl) ?_
    refine Tri.seq ?_
    refine Tri.seqX ttok rfl (by simp [at3, at4, at5, u3, u4, u5, evAV] <;> rfl) ?_
    refine Tri.block ?_
    refine Tri.loopL (α := Nat) (fun x => ({ t := tl [(0, .int .i64 ticks), (1, .bool true), (5, .ptr (c + 2) 0), (6, .ptr (c + 5) 0), (7, .int .i64 1), (8, .int .i64 (x : Int))], σ := putL c (upd none0 (c + 5) (some (.cells 30 [.str [112, 97, 121], .int .i64 2, .int .i64 0]))) ⟨[6], (x : Int), [], [⟨true, ⟨pay, 2, 6⟩⟩], [⟨pay, 2, 6⟩], 1⟩, c := c + 6, fr := [c + 4, c + 3], m := 79, ds := [] } : AS)) (fun x => m - x) (fun x => x ≤ m) 0 ?_ (Nat.zero_le _) ?_
    · refine Le.gh ⟨?_, ?_, ?_, ?_, ?_, ?_⟩
      · exact LeT.cons (by simp) (LeT.cons (by simp) (LeT.cons (by simp) (LeT.cons (by simp) (LeT.cons (by simp) (LeT.cons (by simp) (LeT.nil))))))
      · simp [u5]
      · simp
      · simp
      · rfl
      · rfl
    · intro i him
      refine Tri.seq ?_
      refine Tri.seqR ttok rfl ?_
      refine OpsA.runX 2 (by simp [at3, at4, at5, u3, u4, u5, evAV] <;> rfl) ?_
      simp only [List.drop]
      refine OpsA.call (call_within (a := ticks) (n := 30) (by omega) (by omega)) rfl (by simp [at3, at4, at5, u3, u4, u5, evAV] <;> rfl) (by kernel_rfl) (by simp) rfl ?_
      rintro x σ' ⟨rfl, rfl⟩
      rw [hmw]
      by_cases hi : i < m
      · refine OpsA.all (by simp [at3, at4, at5, u3, u4, u5, evAV, hi] <;> rfl) ?_
        refine Tri.cond (b := true) (by simp [at3, at4, at5, u3, u4, u5, evAV, hi]) (fun _ => ?_) (fun h => by cases h)
        have e7 : IntKind.i64.wrap ((i : Int) + 1) = ((i + 1 : Nat) : Int) := by rw [wrap_id (by omega) (by omega)]; omega
        refine Tri.skip ?_
        refine Tri.seq ?_
        refine Tri.block ?_
        refine Tri.region ttok rfl ?_
        refine OpsA.runX 1 (by simp [at3, at4, at5, u3, u4, u5, evAV, hi] <;> rfl) ?_
        simp only [List.drop]
        refine OpsA.call (ltick (w := ⟨[6], (i : Int), [], [⟨true, ⟨pay, 2, 6⟩⟩], [⟨pay, 2, 6⟩], 1⟩) ⟨by simp, by simp, by simp, by dsimp only; omega, by simp, by simp, by simp⟩ (by simp) (by simp)) rfl (by simp [at3, at4, at5, u3, u4, u5, evAV, hi] <;> rfl) (by kernel_rfl) (by simp) rfl ?_
        rintro x σ' ⟨rfl, rfl⟩
        rw [tickW_none (w := ⟨[6], (i : Int), [], [⟨true, ⟨pay, 2, 6⟩⟩], [⟨pay, 2, 6⟩], 1⟩) rfl]
        refine OpsA.nil ?_
        try simp only [thenQ, blockQ]
        refine Tri.x ttok rfl (by simp [at3, at4, at5, u3, u4, u5, evAV, hi] <;> rfl) ?_
        exact ⟨i + 1, by omega, by omega, Le.gh ⟨LeT.cons (by simp [e7]) (LeT.cons (by simp [e7]) (LeT.cons (by simp [e7]) (LeT.cons (by simp [e7]) (LeT.cons (by simp [e7]) (LeT.cons (by simp [e7]) (LeT.nil)))))), by simp, by simp, by simp, rfl, rfl⟩⟩
      · refine OpsA.all (by simp [at3, at4, at5, u3, u4, u5, evAV, hi] <;> rfl) ?_
        refine Tri.cond (b := false) (by simp [at3, at4, at5, u3, u4, u5, evAV, hi]) (fun h => by cases h) (fun _ => ?_)
        skip
        refine Tri.exit ?_
        try simp only [thenQ, blockQ, if_true]
        refine Tri.seq ?_
        refine Tri.seqR ttok rfl ?_
        refine OpsA.runG 1 (by simp [at3, at4, at5, u3, u4, u5, evAV, hi] <;> rfl) ?_
        simp only [List.drop]
        refine OpsA.call (lflight ⟨by simp, by simp, by simp, by dsimp only; omega, by simp, by simp, by simp⟩) rfl (by simp [at3, at4, at5, u3, u4, u5, evAV, hi] <;> rfl) (by kernel_rfl) (by simp) rfl ?_
        rintro x σ' ⟨rfl, rfl⟩
        refine OpsA.allG (by simp [at3, at4, at5, u3, u4, u5, evAV, hi] <;> rfl) ?_
        refine Tri.cond (b := false) (by simp [at3, at4, at5, u3, u4, u5, evAV, hi]) (fun h => by cases h) (fun _ => ?_)
        refine Tri.skip ?_
        refine Tri.seq ?_
        refine Tri.seqX ttok rfl (by simp [at3, at4, at5, u3, u4, u5, evAV, hi] <;> rfl) ?_
        refine Tri.cond (b := true) (by simp [at3, at4, at5, u3, u4, u5, evAV, hi]) (fun _ => ?_) (fun h => by cases h)
        refine Tri.seqR ttok rfl ?_
        refine OpsA.runX 1 (by simp [at3, at4, at5, u3, u4, u5, evAV, hi] <;> rfl) ?_
        simp only [List.drop]
        refine OpsA.call (ldeliver (i := 0) ⟨by simp, by simp, by simp, by dsimp only; omega, by simp, by simp, by simp⟩) rfl (by simp [at3, at4, at5, u3, u4, u5, evAV, hi] <;> rfl) (by kernel_rfl) (by simp) rfl ?_
        rintro x σ' ⟨rfl, rfl⟩
        rw [show deliverW ⟨[6], (i : Int), [], [⟨true, ⟨pay, 2, 6⟩⟩], [⟨pay, 2, 6⟩], 1⟩ 0 = ((⟨[], 0, 0⟩, false), ⟨[6], (i : Int), [], [], [⟨pay, 2, 6⟩], 1⟩) from rfl]
        refine OpsA.all (by simp [at3, at4, at5, u3, u4, u5, evAV, hi] <;> rfl) ?_
        refine Tri.seqX ttok rfl (by simp [at3, at4, at5, u3, u4, u5, evAV, hi] <;> rfl) ?_
        refine Tri.cond (b := false) (by simp [at3, at4, at5, u3, u4, u5, evAV, hi]) (fun h => by cases h) (fun _ => ?_)
        refine Tri.skip ?_
        refine Tri.seqR ttok rfl ?_
        refine OpsA.runX 2 (by simp [at3, at4, at5, u3, u4, u5, evAV, hi] <;> rfl) ?_
        simp only [List.drop]
        refine OpsA.call (lask (e := ⟨pay, 2, 0⟩) ⟨by simp, by simp, by simp, by dsimp only; omega, by simp, by simp, by simp⟩) rfl (by simp [at3, at4, at5, u3, u4, u5, evAV, hi, evAV] <;> rfl) (by kernel_rfl) (by simp) rfl ?_
        rintro x σ' ⟨rfl, rfl⟩
        rw [show askW ⟨[6], (i : Int), [], [], [⟨pay, 2, 6⟩], 1⟩ ⟨pay, 2, 0⟩ = ⟨[6], (i : Int), [(2, ⟨pay, (i : Int) + 1, 1⟩)], [⟨false, ⟨pay, 2, 0⟩⟩], [⟨pay, 2, 6⟩], 1⟩ from rfl]
        refine OpsA.nil ?_
        refine Tri.seqR ttok rfl ?_
        refine OpsA.runX 1 (by simp [at3, at4, at5, u3, u4, u5, evAV, hi] <;> rfl) ?_
        simp only [List.drop]
        refine OpsA.call (ldeliver (i := 0) ⟨by simp, by simp, by simp, by dsimp only; omega, by simp, by simp, by simp⟩) rfl (by simp [at3, at4, at5, u3, u4, u5, evAV, hi] <;> rfl) (by kernel_rfl) (by simp) rfl ?_
        rintro x σ' ⟨rfl, rfl⟩
        rw [show deliverW ⟨[6], (i : Int), [(2, ⟨pay, (i : Int) + 1, 1⟩)], [⟨false, ⟨pay, 2, 0⟩⟩], [⟨pay, 2, 6⟩], 1⟩ 0 = ((⟨[], 0, 0⟩, false), ⟨[6], (i : Int), [(2, ⟨pay, (i : Int) + 1, 1⟩)], [⟨true, ⟨pay, 2, 6⟩⟩], [⟨pay, 2, 6⟩], 1⟩) from rfl]
        refine OpsA.nil ?_
        refine Tri.seqR ttok rfl ?_
        refine OpsA.runX 1 (by simp [at3, at4, at5, u3, u4, u5, evAV, hi] <;> rfl) ?_
        simp only [List.drop]
        refine OpsA.call (ldeliver (i := 0) ⟨by simp, by simp, by simp, by dsimp only; omega, by simp, by simp, by simp⟩) rfl (by simp [at3, at4, at5, u3, u4, u5, evAV, hi] <;> rfl) (by kernel_rfl) (by simp) rfl ?_
        rintro x σ' ⟨rfl, rfl⟩
        rw [show deliverW ⟨[6], (i : Int), [(2, ⟨pay, (i : Int) + 1, 1⟩)], [⟨true, ⟨pay, 2, 6⟩⟩], [⟨pay, 2, 6⟩], 1⟩ 0 = ((⟨pay, 2, 6⟩, true), ⟨[6], (i : Int), [], [], [⟨pay, 2, 6⟩], 1⟩) from rfl]
        refine OpsA.all (by simp [at3, at4, at5, u3, u4, u5, evAV, hi] <;> rfl) ?_
        refine Tri.seqR ttok rfl ?_
        refine OpsA.runG 8 (by simp [at3, at4, at5, u3, u4, u5, evAV, hi] <;> rfl) ?_
        simp only [List.drop]
        refine OpsA.guard rfl rfl (by simp [at3, at4, at5, u3, u4, u5, evAV, hi] <;> rfl) (fun _ => ?_) (fun h => absurd rfl h)
        refine OpsA.call (lapplied ⟨by simp, by simp, by simp, by dsimp only; omega, by simp, by simp, by simp⟩) rfl (by simp [at3, at4, at5, u3, u4, u5, evAV, hi] <;> rfl) (by kernel_rfl) (by simp) rfl ?_
        rintro x σ' ⟨rfl, rfl⟩
        refine OpsA.allG (by simp [at3, at4, at5, u3, u4, u5, evAV, hi] <;> rfl) ?_
        refine Tri.ret ?_
        exact fnPost.tmp (.inr rfl) rfl (by rfl) (by simp <;> rfl) (by exact True.intro) (Stays.law fun n hn => by simp only [σ_put, σ_with, u3, u4, u5]; rw [putL_lt hn]; simp [none0_at, show n ≠ c + 3 by omega, show n ≠ c + 4 by omega, show n ≠ c + 5 by omega]) rfl
end Go.Proofs.Ytilpklkgmibpgaa
