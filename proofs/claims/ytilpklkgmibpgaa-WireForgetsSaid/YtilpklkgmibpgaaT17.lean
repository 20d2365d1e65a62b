import Derived.Test.YtilpklkgmibpgaaT16
namespace Go.Proofs.Ytilpklkgmibpgaa
open Go.Ab
set_option maxHeartbeats 400000
set_option linter.unusedVariables false
set_option linter.unusedSimpArgs false
attribute [local simp] tt3 tt4 tt9 tt22 tt24 tt30 tt31 tt36 tt42 tt55 tt57 tt63
attribute [local simp] eqA sliceEq rowsA fillR appendA AV.lt mapElem lookupA mapPutA mapDelA mapClearA lenA sliceA indexA nth buildA fillA placesA TI.zv nilEq
attribute [local simp] List.filter_cons

def ship : List UInt8 := [115, 104, 105, 112]
theorem fr5 (c : Nat) : ([c + 4, c + 3, c + 2, c + 1, c].filter fun n => !([c + 2, c + 1, c] : List Nat).contains n) = [c + 4, c + 3] := by
  simp [List.filter_cons, show ¬ c + 4 = c by omega, show ¬ c + 3 = c by omega, show ¬ c + 2 = c by omega]
theorem fr4 (c : Nat) : ([c + 3, c + 2, c + 1, c].filter fun n => !([c + 2, c + 1, c] : List Nat).contains n) = [c + 3] := by
  simp [List.filter_cons, show ¬ c + 3 = c by omega, show ¬ c + 2 = c by omega]
theorem call_law5 {v o : Int} {ap : Bool} : CallA Try.prog 5 [.int .i64 v, .bool ap, .int .i64 o] (fun _ => none) [] fun x _ => x = .bool true := by
  refine CallA.of ttok Try.func5 rfl (show 3 ≤ 78 by decide) fun c hF => ?_
  refine Tri.fresh (Tri.fresh (Tri.fresh (Tri.fresh (Tri.fresh ?_))))
  refine Tri.seqX ttok rfl (by simp <;> rfl) ?_
  refine Tri.seq ?_
  refine Tri.seqR ttok rfl ?_
  refine OpsA.call (lknown) rfl (by simp <;> rfl) (by kernel_rfl) (by simp) rfl ?_
  rintro x σ1 ⟨rfl, rfl⟩
  refine OpsA.all (by simp <;> rfl) ?_
  refine Tri.cond (b := false) (by simp) (fun h => by cases h) (fun _ => ?_)
  refine Tri.skip ?_
  refine Tri.seqR ttok rfl ?_
  refine OpsA.runX 2 (by simp <;> rfl) ?_
  simp only [List.drop]
  refine OpsA.call (lnew (c := c) (vs := [v, -1]) (by simp)) rfl (by simp [intRow] <;> rfl) (by kernel_rfl) (by simp) (fr5 c) ?_
  rintro x σ1 ⟨rfl, rfl⟩
  refine OpsA.all (by simp <;> rfl) ?_
  refine Tri.seq ?_
  refine Tri.seqX ttok rfl (by simp <;> rfl) ?_
  refine Tri.cond (b := false) (by simp) (fun h => by cases h) (fun _ => ?_)
  have u4 := fun (σ' : Nat → Option AO) (w' : Wire) (x : Option AO) => putL_upd (c := c) (σ := σ') (w := w') (x := x) (show c + 3 ≤ c + 4 by omega)
  have at4 := fun (σ' : Nat → Option AO) (w' : Wire) => putL_at (c := c) (σ := σ') (w := w') (show c + 3 ≤ c + 4 by omega)
  have u3 := fun (σ' : Nat → Option AO) (w' : Wire) (x : Option AO) => putL_upd (c := c) (σ := σ') (w := w') (x := x) (show c + 3 ≤ c + 3 by omega)
  have at3 := fun (σ' : Nat → Option AO) (w' : Wire) => putL_at (c := c) (σ := σ') (w := w') (show c + 3 ≤ c + 3 by omega)
  cases ap
  · refine Tri.skip ?_
    refine Tri.seqX ttok rfl (by simp [at4, at3, evAV] <;> rfl) ?_
    simp only [σ_put, σ_with, fr_put, fr_with, u4, u3, upd_idem]
    refine Tri.seqR ttok rfl ?_
    refine OpsA.runX 2 (by simp [at4, at3, evAV] <;> rfl) ?_
    simp only [List.drop]
    refine OpsA.call (lask (e := ⟨pay, 4, 0⟩) ⟨by simp, by simp, by simp, by simp, by simp, by simp, by simp⟩) rfl (by simp [at4, at3, evAV, evAV] <;> rfl) (by kernel_rfl) (by simp) rfl ?_
    rintro x σ' ⟨rfl, rfl⟩
    rw [show askW ⟨[v, -1], 0, [], [], [], 0⟩ ⟨pay, 4, 0⟩ = ⟨[v, -1], 0, [(4, ⟨pay, 1, 1⟩)], [⟨false, ⟨pay, 4, 0⟩⟩], [], 0⟩ from rfl]
    refine OpsA.nil ?_
    refine Tri.seq ?_
    refine Tri.seqX ttok rfl (by simp [at4, at3, evAV] <;> rfl) ?_
    refine Tri.cond (b := false) (by simp [at4, at3, evAV]) (fun h => by cases h) (fun _ => ?_)
    refine Tri.skip ?_
    refine Tri.seqR ttok rfl ?_
    refine OpsA.runX 1 (by simp [at4, at3, evAV] <;> rfl) ?_
    simp only [List.drop]
    refine OpsA.call (lcrash ⟨by simp, by simp, by simp, by simp, by simp, by simp, by simp⟩) rfl (by simp [at4, at3, evAV] <;> rfl) (by kernel_rfl) (by simp) rfl ?_
    rintro x σ' ⟨rfl, rfl⟩
    rw [show crashW ⟨[v, -1], 0, [(4, ⟨pay, 1, 1⟩)], [⟨false, ⟨pay, 4, 0⟩⟩], [], 0⟩ = ⟨[v, -1], 0, [], [⟨false, ⟨pay, 4, 0⟩⟩], [], 0⟩ from rfl]
    refine OpsA.nil ?_
    refine Tri.seq ?_
    refine Tri.seqR ttok rfl ?_
    refine OpsA.runX 1 (by simp [at4, at3, evAV, sortedKeys] <;> rfl) ?_
    simp only [List.drop]
    refine OpsA.call (lopen ⟨by simp, by simp, by simp, by simp, by simp, by simp, by simp⟩) rfl (by simp [at4, at3, evAV, sortedKeys] <;> rfl) (by kernel_rfl) (by simp) rfl ?_
    rintro x σ' ⟨rfl, rfl⟩
    refine OpsA.all (by simp [at4, at3, evAV, sortedKeys] <;> rfl) ?_
    refine Tri.cond (b := false) (by simp [at4, at3, evAV, sortedKeys]) (fun h => by cases h) (fun _ => ?_)
    refine Tri.skip ?_
    refine Tri.seq ?_
    refine Tri.block ?_
    refine Tri.loopL (α := List Msg) (fun x => ({ t := tl [(0, .int .i64 v), (1, .bool false), (2, .int .i64 o), (7, .ptr (c + 2) 0), (8, .ptr (c + 4) 0)], σ := putL c (upd none0 (c + 4) (some (.cells 30 [.str [112, 97, 121], .int .i64 4, .int .i64 0]))) ⟨[v, -1], 0, [], x, [], 0⟩, c := c + 5, fr := [c + 3], m := 78, ds := [] } : AS)) (fun x => x.length) (fun x => x.length ≤ 1) [⟨false, ⟨pay, 4, 0⟩⟩] ?_ (by simp) ?_
    · refine Le.gh ⟨?_, ?_, ?_, ?_, ?_, ?_⟩
      · exact LeT.cons (by simp) (LeT.cons (by simp) (LeT.cons (by simp) (LeT.cons (by simp) (LeT.cons (by simp) (LeT.nil)))))
      · simp [u4]
      · simp
      · simp
      · rfl
      · rfl
    · intro fl hfl
      rcases (show fl = [] ∨ ∃ m, fl = [m] by match fl, hfl with
        | [], _ => exact .inl rfl
        | [m], _ => exact .inr ⟨m, rfl⟩) with rfl | ⟨m, rfl⟩
      · refine Tri.seq ?_
        refine Tri.seqR ttok rfl ?_
        refine OpsA.runX 1 (by simp [at4, at3, evAV, sortedKeys] <;> rfl) ?_
        simp only [List.drop]
        refine OpsA.call (lflight ⟨by simp, by simp, by simp, by simp, by simp, by simp, by simp⟩) rfl (by simp [at4, at3, evAV, sortedKeys] <;> rfl) (by kernel_rfl) (by simp) rfl ?_
        rintro x σ' ⟨rfl, rfl⟩
        refine OpsA.all (by simp [at4, at3, evAV, sortedKeys] <;> rfl) ?_
        refine Tri.cond (b := false) (by simp [at4, at3, evAV, sortedKeys]) (fun h => by cases h) (fun _ => ?_)
        refine Tri.exit ?_
        try simp only [thenQ, blockQ, if_true]
        refine Tri.seq ?_
        refine Tri.seqR ttok rfl ?_
        refine OpsA.runG 1 (by simp [at4, at3, evAV, sortedKeys] <;> rfl) ?_
        simp only [List.drop]
        refine OpsA.call (call_within (a := o) (n := 2) (by omega) (by omega)) rfl (by simp [at4, at3, evAV, sortedKeys] <;> rfl) (by kernel_rfl) (by simp) rfl ?_
        rintro x σ' ⟨rfl, rfl⟩
        by_cases ho : within o 2 = 0
        · refine OpsA.allG (by simp [at4, at3, evAV, sortedKeys, ho] <;> rfl) ?_
          refine Tri.cond (b := false) (by simp [at4, at3, evAV, sortedKeys, ho]) (fun h => by cases h) (fun _ => ?_)
          refine Tri.skip ?_
          refine Tri.seqR ttok rfl ?_
          refine OpsA.runX 2 (by simp [at4, at3, evAV, sortedKeys, ho] <;> rfl) ?_
          simp only [List.drop]
          refine OpsA.call (lask (e := ⟨pay, 4, 0⟩) ⟨by simp, by simp, by simp, by simp, by simp, by simp, by simp⟩) rfl (by simp [at4, at3, evAV, sortedKeys, ho, evAV] <;> rfl) (by kernel_rfl) (by simp) rfl ?_
          rintro x σ' ⟨rfl, rfl⟩
          rw [show askW ⟨[v, -1], 0, [], [], [], 0⟩ ⟨pay, 4, 0⟩ = ⟨[v, -1], 0, [(4, ⟨pay, 1, 1⟩)], [⟨false, ⟨pay, 4, 0⟩⟩], [], 0⟩ from rfl]
          refine OpsA.nil ?_
          refine Tri.seqR ttok rfl ?_
          refine OpsA.runX 1 (by simp [at4, at3, evAV, sortedKeys, ho] <;> rfl) ?_
          simp only [List.drop]
          refine OpsA.call (ldeliver (i := 0) ⟨by simp, by simp, by simp, by simp, by simp, by simp, by simp⟩) rfl (by simp [at4, at3, evAV, sortedKeys, ho] <;> rfl) (by kernel_rfl) (by simp) rfl ?_
          rintro x σ' ⟨rfl, rfl⟩
          rw [show deliverW ⟨[v, -1], 0, [(4, ⟨pay, 1, 1⟩)], [⟨false, ⟨pay, 4, 0⟩⟩], [], 0⟩ 0 = ((⟨[], 0, 0⟩, false), ⟨[v, -1], 0, [(4, ⟨pay, 1, 1⟩)], [⟨true, ⟨pay, 4, v⟩⟩], [⟨pay, 4, v⟩], 1⟩) from rfl]
          refine OpsA.nil ?_
          refine Tri.seqR ttok rfl ?_
          refine OpsA.runX 1 (by simp [at4, at3, evAV, sortedKeys, ho] <;> rfl) ?_
          simp only [List.drop]
          refine OpsA.call (ldeliver (i := 0) ⟨by simp, by simp, by simp, by simp, by simp, by simp, by simp⟩) rfl (by simp [at4, at3, evAV, sortedKeys, ho] <;> rfl) (by kernel_rfl) (by simp) rfl ?_
          rintro x σ' ⟨rfl, rfl⟩
          rw [show deliverW ⟨[v, -1], 0, [(4, ⟨pay, 1, 1⟩)], [⟨true, ⟨pay, 4, v⟩⟩], [⟨pay, 4, v⟩], 1⟩ 0 = ((⟨pay, 4, v⟩, true), ⟨[v, -1], 0, [], [], [⟨pay, 4, v⟩], 1⟩) from rfl]
          refine OpsA.all (by simp [at4, at3, evAV, sortedKeys, ho, pay] <;> rfl) ?_
          refine Tri.seqR ttok rfl ?_
          refine OpsA.allG (by simp [at4, at3, evAV, sortedKeys, ho, pay] <;> rfl) ?_
          refine Tri.ret ?_
          exact fnPost.tmp (.inr rfl) rfl (by rfl) (by simp <;> rfl) (by exact True.intro) (Stays.law fun n hn => by simp only [σ_put, σ_with, u4, u3]; rw [putL_lt hn]; simp [none0_at, show n ≠ c + 4 by omega, show n ≠ c + 3 by omega]) rfl
        · refine OpsA.allG (by simp [at4, at3, evAV, sortedKeys, ho] <;> rfl) ?_
          refine Tri.cond (b := false) (by simp [at4, at3, evAV, sortedKeys, ho]) (fun h => by cases h) (fun _ => ?_)
          refine Tri.skip ?_
          refine Tri.seqR ttok rfl ?_
          refine OpsA.runX 2 (by simp [at4, at3, evAV, sortedKeys, ho] <;> rfl) ?_
          simp only [List.drop]
          refine OpsA.call (lask (e := ⟨pay, 4, 0⟩) ⟨by simp, by simp, by simp, by simp, by simp, by simp, by simp⟩) rfl (by simp [at4, at3, evAV, sortedKeys, ho, evAV] <;> rfl) (by kernel_rfl) (by simp) rfl ?_
          rintro x σ' ⟨rfl, rfl⟩
          rw [show askW ⟨[v, -1], 0, [], [], [], 0⟩ ⟨pay, 4, 0⟩ = ⟨[v, -1], 0, [(4, ⟨pay, 1, 1⟩)], [⟨false, ⟨pay, 4, 0⟩⟩], [], 0⟩ from rfl]
          refine OpsA.nil ?_
          refine Tri.seqR ttok rfl ?_
          refine OpsA.runX 1 (by simp [at4, at3, evAV, sortedKeys, ho] <;> rfl) ?_
          simp only [List.drop]
          refine OpsA.call (ldeliver (i := 0) ⟨by simp, by simp, by simp, by simp, by simp, by simp, by simp⟩) rfl (by simp [at4, at3, evAV, sortedKeys, ho] <;> rfl) (by kernel_rfl) (by simp) rfl ?_
          rintro x σ' ⟨rfl, rfl⟩
          rw [show deliverW ⟨[v, -1], 0, [(4, ⟨pay, 1, 1⟩)], [⟨false, ⟨pay, 4, 0⟩⟩], [], 0⟩ 0 = ((⟨[], 0, 0⟩, false), ⟨[v, -1], 0, [(4, ⟨pay, 1, 1⟩)], [⟨true, ⟨pay, 4, v⟩⟩], [⟨pay, 4, v⟩], 1⟩) from rfl]
          refine OpsA.nil ?_
          refine Tri.seqR ttok rfl ?_
          refine OpsA.runX 1 (by simp [at4, at3, evAV, sortedKeys, ho] <;> rfl) ?_
          simp only [List.drop]
          refine OpsA.call (ldeliver (i := 0) ⟨by simp, by simp, by simp, by simp, by simp, by simp, by simp⟩) rfl (by simp [at4, at3, evAV, sortedKeys, ho] <;> rfl) (by kernel_rfl) (by simp) rfl ?_
          rintro x σ' ⟨rfl, rfl⟩
          rw [show deliverW ⟨[v, -1], 0, [(4, ⟨pay, 1, 1⟩)], [⟨true, ⟨pay, 4, v⟩⟩], [⟨pay, 4, v⟩], 1⟩ 0 = ((⟨pay, 4, v⟩, true), ⟨[v, -1], 0, [], [], [⟨pay, 4, v⟩], 1⟩) from rfl]
          refine OpsA.all (by simp [at4, at3, evAV, sortedKeys, ho, pay] <;> rfl) ?_
          refine Tri.seqR ttok rfl ?_
          refine OpsA.allG (by simp [at4, at3, evAV, sortedKeys, ho, pay] <;> rfl) ?_
          refine Tri.ret ?_
          exact fnPost.tmp (.inr rfl) rfl (by rfl) (by simp <;> rfl) (by exact True.intro) (Stays.law fun n hn => by simp only [σ_put, σ_with, u4, u3]; rw [putL_lt hn]; simp [none0_at, show n ≠ c + 4 by omega, show n ≠ c + 3 by omega]) rfl
      · refine Tri.seq ?_
        refine Tri.seqR ttok rfl ?_
        refine OpsA.runX 1 (by simp [at4, at3, evAV, sortedKeys] <;> rfl) ?_
        simp only [List.drop]
        refine OpsA.call (lflight ⟨by simp, by simp, by simp, by simp, by simp, by simp, by simp⟩) rfl (by simp [at4, at3, evAV, sortedKeys] <;> rfl) (by kernel_rfl) (by simp) rfl ?_
        rintro x σ' ⟨rfl, rfl⟩
        refine OpsA.all (by simp [at4, at3, evAV, sortedKeys] <;> rfl) ?_
        refine Tri.cond (b := true) (by simp [at4, at3, evAV, sortedKeys]) (fun _ => ?_) (fun h => by cases h)
        refine Tri.skip ?_
        refine Tri.block ?_
        refine Tri.seqR ttok rfl ?_
        refine OpsA.runX 1 (by simp [at4, at3, evAV, sortedKeys] <;> rfl) ?_
        simp only [List.drop]
        refine OpsA.call (ldrop (i := 0) (by exact ⟨by simp, by simp, by simp, by simp, by simp, by simp, by simp⟩)) rfl (by simp [at4, at3, evAV, sortedKeys] <;> rfl) (by kernel_rfl) (by simp) rfl ?_
        rintro x σ' ⟨rfl, rfl⟩
        rw [show dropW ⟨[v, -1], 0, [], [m], [], 0⟩ 0 = ⟨[v, -1], 0, [], [], [], 0⟩ from rfl]
        refine OpsA.all (by simp [at4, at3, evAV, sortedKeys] <;> rfl) ?_
        refine Tri.cond (b := false) (by simp [at4, at3, evAV, sortedKeys]) (fun h => by cases h) (fun _ => ?_)
        refine Tri.skip ?_
        try simp only [thenQ, blockQ]
        exact ⟨[], by simp, by simp, Le.gh ⟨LeT.cons (by simp) (LeT.cons (by simp) (LeT.cons (by simp) (LeT.cons (by simp) (LeT.cons (by simp) (LeT.nil))))), by simp, by simp, by simp, rfl, rfl⟩⟩
  · refine Tri.skip ?_
    refine Tri.seqX ttok rfl (by simp [at4, at3, evAV] <;> rfl) ?_
    simp only [σ_put, σ_with, fr_put, fr_with, u4, u3, upd_idem]
    refine Tri.seqR ttok rfl ?_
    refine OpsA.runX 2 (by simp [at4, at3, evAV] <;> rfl) ?_
    simp only [List.drop]
    refine OpsA.call (lask (e := ⟨pay, 4, 0⟩) ⟨by simp, by simp, by simp, by simp, by simp, by simp, by simp⟩) rfl (by simp [at4, at3, evAV, evAV] <;> rfl) (by kernel_rfl) (by simp) rfl ?_
    rintro x σ' ⟨rfl, rfl⟩
    rw [show askW ⟨[v, -1], 0, [], [], [], 0⟩ ⟨pay, 4, 0⟩ = ⟨[v, -1], 0, [(4, ⟨pay, 1, 1⟩)], [⟨false, ⟨pay, 4, 0⟩⟩], [], 0⟩ from rfl]
    refine OpsA.nil ?_
    refine Tri.seq ?_
    refine Tri.seqX ttok rfl (by simp [at4, at3, evAV] <;> rfl) ?_
    refine Tri.cond (b := true) (by simp [at4, at3, evAV]) (fun _ => ?_) (fun h => by cases h)
    refine Tri.region ttok rfl ?_
    refine OpsA.runX 1 (by simp [at4, at3, evAV] <;> rfl) ?_
    simp only [List.drop]
    refine OpsA.call (ldeliver (i := 0) ⟨by simp, by simp, by simp, by simp, by simp, by simp, by simp⟩) rfl (by simp [at4, at3, evAV] <;> rfl) (by kernel_rfl) (by simp) rfl ?_
    rintro x σ' ⟨rfl, rfl⟩
    rw [show deliverW ⟨[v, -1], 0, [(4, ⟨pay, 1, 1⟩)], [⟨false, ⟨pay, 4, 0⟩⟩], [], 0⟩ 0 = ((⟨[], 0, 0⟩, false), ⟨[v, -1], 0, [(4, ⟨pay, 1, 1⟩)], [⟨true, ⟨pay, 4, v⟩⟩], [⟨pay, 4, v⟩], 1⟩) from rfl]
    refine OpsA.nil ?_
    refine Tri.seqR ttok rfl ?_
    refine OpsA.runX 1 (by simp [at4, at3, evAV] <;> rfl) ?_
    simp only [List.drop]
    refine OpsA.call (lcrash ⟨by simp, by simp, by simp, by simp, by simp, by simp, by simp⟩) rfl (by simp [at4, at3, evAV] <;> rfl) (by kernel_rfl) (by simp) rfl ?_
    rintro x σ' ⟨rfl, rfl⟩
    rw [show crashW ⟨[v, -1], 0, [(4, ⟨pay, 1, 1⟩)], [⟨true, ⟨pay, 4, v⟩⟩], [⟨pay, 4, v⟩], 1⟩ = ⟨[v, -1], 0, [], [⟨true, ⟨pay, 4, v⟩⟩], [⟨pay, 4, v⟩], 1⟩ from rfl]
    refine OpsA.nil ?_
    refine Tri.seq ?_
    refine Tri.seqR ttok rfl ?_
    refine OpsA.runX 1 (by simp [at4, at3, evAV, sortedKeys] <;> rfl) ?_
    simp only [List.drop]
    refine OpsA.call (lopen ⟨by simp, by simp, by simp, by simp, by simp, by simp, by simp⟩) rfl (by simp [at4, at3, evAV, sortedKeys] <;> rfl) (by kernel_rfl) (by simp) rfl ?_
    rintro x σ' ⟨rfl, rfl⟩
    refine OpsA.all (by simp [at4, at3, evAV, sortedKeys] <;> rfl) ?_
    refine Tri.cond (b := false) (by simp [at4, at3, evAV, sortedKeys]) (fun h => by cases h) (fun _ => ?_)
    refine Tri.skip ?_
    refine Tri.seq ?_
    refine Tri.block ?_
    refine Tri.loopL (α := List Msg) (fun x => ({ t := tl [(0, .int .i64 v), (1, .bool true), (2, .int .i64 o), (7, .ptr (c + 2) 0), (8, .ptr (c + 4) 0)], σ := putL c (upd none0 (c + 4) (some (.cells 30 [.str [112, 97, 121], .int .i64 4, .int .i64 0]))) ⟨[v, -1], 0, [], x, [⟨pay, 4, v⟩], 1⟩, c := c + 5, fr := [c + 3], m := 78, ds := [] } : AS)) (fun x => x.length) (fun x => x.length ≤ 1) [⟨true, ⟨pay, 4, v⟩⟩] ?_ (by simp) ?_
    · refine Le.gh ⟨?_, ?_, ?_, ?_, ?_, ?_⟩
      · exact LeT.cons (by simp) (LeT.cons (by simp) (LeT.cons (by simp) (LeT.cons (by simp) (LeT.cons (by simp) (LeT.nil)))))
      · simp [u4]
      · simp
      · simp
      · rfl
      · rfl
    · intro fl hfl
      rcases (show fl = [] ∨ ∃ m, fl = [m] by match fl, hfl with
        | [], _ => exact .inl rfl
        | [m], _ => exact .inr ⟨m, rfl⟩) with rfl | ⟨m, rfl⟩
      · refine Tri.seq ?_
        refine Tri.seqR ttok rfl ?_
        refine OpsA.runX 1 (by simp [at4, at3, evAV, sortedKeys] <;> rfl) ?_
        simp only [List.drop]
        refine OpsA.call (lflight ⟨by simp, by simp, by simp, by simp, by simp, by simp, by simp⟩) rfl (by simp [at4, at3, evAV, sortedKeys] <;> rfl) (by kernel_rfl) (by simp) rfl ?_
        rintro x σ' ⟨rfl, rfl⟩
        refine OpsA.all (by simp [at4, at3, evAV, sortedKeys] <;> rfl) ?_
        refine Tri.cond (b := false) (by simp [at4, at3, evAV, sortedKeys]) (fun h => by cases h) (fun _ => ?_)
        refine Tri.exit ?_
        try simp only [thenQ, blockQ, if_true]
        refine Tri.seq ?_
        refine Tri.seqR ttok rfl ?_
        refine OpsA.runG 1 (by simp [at4, at3, evAV, sortedKeys] <;> rfl) ?_
        simp only [List.drop]
        refine OpsA.call (call_within (a := o) (n := 2) (by omega) (by omega)) rfl (by simp [at4, at3, evAV, sortedKeys] <;> rfl) (by kernel_rfl) (by simp) rfl ?_
        rintro x σ' ⟨rfl, rfl⟩
        by_cases ho : within o 2 = 0
        · refine OpsA.allG (by simp [at4, at3, evAV, sortedKeys, ho] <;> rfl) ?_
          refine Tri.cond (b := true) (by simp [at4, at3, evAV, sortedKeys, ho]) (fun _ => ?_) (fun h => by cases h)
          refine Tri.seqR ttok rfl ?_
          refine OpsA.runX 2 (by simp [at4, at3, evAV, sortedKeys, ho] <;> rfl) ?_
          simp only [List.drop]
          refine OpsA.call (lask (e := ⟨ship, 5, 0⟩) ⟨by simp, by simp, by simp, by simp, by simp, by simp, by simp⟩) rfl (by simp [at4, at3, evAV, sortedKeys, ho, evAV] <;> rfl) (by kernel_rfl) (by simp) rfl ?_
          rintro x σ' ⟨rfl, rfl⟩
          rw [show askW ⟨[v, -1], 0, [], [], [⟨pay, 4, v⟩], 1⟩ ⟨ship, 5, 0⟩ = ⟨[v, -1], 0, [(5, ⟨ship, 1, 1⟩)], [⟨false, ⟨ship, 5, 0⟩⟩], [⟨pay, 4, v⟩], 1⟩ from rfl]
          refine OpsA.nil ?_
          refine Tri.seqR ttok rfl ?_
          refine OpsA.runX 1 (by simp [at4, at3, evAV, sortedKeys, ho] <;> rfl) ?_
          simp only [List.drop]
          refine OpsA.call (ldeliver (i := 0) ⟨by simp, by simp, by simp, by simp, by simp, by simp, by simp⟩) rfl (by simp [at4, at3, evAV, sortedKeys, ho] <;> rfl) (by kernel_rfl) (by simp) rfl ?_
          rintro x σ' ⟨rfl, rfl⟩
          rw [show deliverW ⟨[v, -1], 0, [(5, ⟨ship, 1, 1⟩)], [⟨false, ⟨ship, 5, 0⟩⟩], [⟨pay, 4, v⟩], 1⟩ 0 = ((⟨[], 0, 0⟩, false), ⟨[v, -1], 0, [(5, ⟨ship, 1, 1⟩)], [⟨true, ⟨ship, 5, -1⟩⟩], [⟨pay, 4, v⟩, ⟨ship, 5, -1⟩], 2⟩) from rfl]
          refine OpsA.nil ?_
          refine Tri.region ttok rfl ?_
          refine OpsA.runX 1 (by simp [at4, at3, evAV, sortedKeys, ho] <;> rfl) ?_
          simp only [List.drop]
          refine OpsA.call (ldrop (i := 0) ⟨by simp, by simp, by simp, by simp, by simp, by simp, by simp⟩) rfl (by simp [at4, at3, evAV, sortedKeys, ho] <;> rfl) (by kernel_rfl) (by simp) rfl ?_
          rintro x σ' ⟨rfl, rfl⟩
          rw [show dropW ⟨[v, -1], 0, [(5, ⟨ship, 1, 1⟩)], [⟨true, ⟨ship, 5, -1⟩⟩], [⟨pay, 4, v⟩, ⟨ship, 5, -1⟩], 2⟩ 0 = ⟨[v, -1], 0, [(5, ⟨ship, 1, 1⟩)], [], [⟨pay, 4, v⟩, ⟨ship, 5, -1⟩], 2⟩ from rfl]
          refine OpsA.nil ?_
          refine Tri.seqR ttok rfl ?_
          refine OpsA.runX 2 (by simp [at4, at3, evAV, sortedKeys, ho] <;> rfl) ?_
          simp only [List.drop]
          refine OpsA.call (lask (e := ⟨pay, 4, 0⟩) ⟨by simp, by simp, by simp, by simp, by simp, by simp, by simp⟩) rfl (by simp [at4, at3, evAV, sortedKeys, ho, evAV] <;> rfl) (by kernel_rfl) (by simp) rfl ?_
          rintro x σ' ⟨rfl, rfl⟩
          rw [show askW ⟨[v, -1], 0, [(5, ⟨ship, 1, 1⟩)], [], [⟨pay, 4, v⟩, ⟨ship, 5, -1⟩], 2⟩ ⟨pay, 4, 0⟩ = ⟨[v, -1], 0, [(5, ⟨ship, 1, 1⟩), (4, ⟨pay, 1, 1⟩)], [⟨false, ⟨pay, 4, 0⟩⟩], [⟨pay, 4, v⟩, ⟨ship, 5, -1⟩], 2⟩ from rfl]
          refine OpsA.nil ?_
          refine Tri.seqR ttok rfl ?_
          refine OpsA.runX 1 (by simp [at4, at3, evAV, sortedKeys, ho] <;> rfl) ?_
          simp only [List.drop]
          refine OpsA.call (ldeliver (i := 0) ⟨by simp, by simp, by simp, by simp, by simp, by simp, by simp⟩) rfl (by simp [at4, at3, evAV, sortedKeys, ho] <;> rfl) (by kernel_rfl) (by simp) rfl ?_
          rintro x σ' ⟨rfl, rfl⟩
          rw [show deliverW ⟨[v, -1], 0, [(5, ⟨ship, 1, 1⟩), (4, ⟨pay, 1, 1⟩)], [⟨false, ⟨pay, 4, 0⟩⟩], [⟨pay, 4, v⟩, ⟨ship, 5, -1⟩], 2⟩ 0 = ((⟨[], 0, 0⟩, false), ⟨[v, -1], 0, [(5, ⟨ship, 1, 1⟩), (4, ⟨pay, 1, 1⟩)], [⟨true, ⟨pay, 4, v⟩⟩], [⟨pay, 4, v⟩, ⟨ship, 5, -1⟩], 2⟩) from rfl]
          refine OpsA.nil ?_
          refine Tri.seqR ttok rfl ?_
          refine OpsA.runX 1 (by simp [at4, at3, evAV, sortedKeys, ho] <;> rfl) ?_
          simp only [List.drop]
          refine OpsA.call (ldeliver (i := 0) ⟨by simp, by simp, by simp, by simp, by simp, by simp, by simp⟩) rfl (by simp [at4, at3, evAV, sortedKeys, ho] <;> rfl) (by kernel_rfl) (by simp) rfl ?_
          rintro x σ' ⟨rfl, rfl⟩
          rw [show deliverW ⟨[v, -1], 0, [(5, ⟨ship, 1, 1⟩), (4, ⟨pay, 1, 1⟩)], [⟨true, ⟨pay, 4, v⟩⟩], [⟨pay, 4, v⟩, ⟨ship, 5, -1⟩], 2⟩ 0 = ((⟨pay, 4, v⟩, true), ⟨[v, -1], 0, [(5, ⟨ship, 1, 1⟩)], [], [⟨pay, 4, v⟩, ⟨ship, 5, -1⟩], 2⟩) from rfl]
          refine OpsA.all (by simp [at4, at3, evAV, sortedKeys, ho, pay] <;> rfl) ?_
          refine Tri.seqR ttok rfl ?_
          refine OpsA.allG (by simp [at4, at3, evAV, sortedKeys, ho, pay] <;> rfl) ?_
          refine Tri.ret ?_
          exact fnPost.tmp (.inr rfl) rfl (by rfl) (by simp <;> rfl) (by exact True.intro) (Stays.law fun n hn => by simp only [σ_put, σ_with, u4, u3]; rw [putL_lt hn]; simp [none0_at, show n ≠ c + 4 by omega, show n ≠ c + 3 by omega]) rfl
        · refine OpsA.allG (by simp [at4, at3, evAV, sortedKeys, ho] <;> rfl) ?_
          refine Tri.cond (b := false) (by simp [at4, at3, evAV, sortedKeys, ho]) (fun h => by cases h) (fun _ => ?_)
          refine Tri.skip ?_
          refine Tri.seqR ttok rfl ?_
          refine OpsA.runX 2 (by simp [at4, at3, evAV, sortedKeys, ho] <;> rfl) ?_
          simp only [List.drop]
          refine OpsA.call (lask (e := ⟨pay, 4, 0⟩) ⟨by simp, by simp, by simp, by simp, by simp, by simp, by simp⟩) rfl (by simp [at4, at3, evAV, sortedKeys, ho, evAV] <;> rfl) (by kernel_rfl) (by simp) rfl ?_
          rintro x σ' ⟨rfl, rfl⟩
          rw [show askW ⟨[v, -1], 0, [], [], [⟨pay, 4, v⟩], 1⟩ ⟨pay, 4, 0⟩ = ⟨[v, -1], 0, [(4, ⟨pay, 1, 1⟩)], [⟨false, ⟨pay, 4, 0⟩⟩], [⟨pay, 4, v⟩], 1⟩ from rfl]
          refine OpsA.nil ?_
          refine Tri.seqR ttok rfl ?_
          refine OpsA.runX 1 (by simp [at4, at3, evAV, sortedKeys, ho] <;> rfl) ?_
          simp only [List.drop]
          refine OpsA.call (ldeliver (i := 0) ⟨by simp, by simp, by simp, by simp, by simp, by simp, by simp⟩) rfl (by simp [at4, at3, evAV, sortedKeys, ho] <;> rfl) (by kernel_rfl) (by simp) rfl ?_
          rintro x σ' ⟨rfl, rfl⟩
          rw [show deliverW ⟨[v, -1], 0, [(4, ⟨pay, 1, 1⟩)], [⟨false, ⟨pay, 4, 0⟩⟩], [⟨pay, 4, v⟩], 1⟩ 0 = ((⟨[], 0, 0⟩, false), ⟨[v, -1], 0, [(4, ⟨pay, 1, 1⟩)], [⟨true, ⟨pay, 4, v⟩⟩], [⟨pay, 4, v⟩], 1⟩) from rfl]
          refine OpsA.nil ?_
          refine Tri.seqR ttok rfl ?_
          refine OpsA.runX 1 (by simp [at4, at3, evAV, sortedKeys, ho] <;> rfl) ?_
          simp only [List.drop]
          refine OpsA.call (ldeliver (i := 0) ⟨by simp, by simp, by simp, by simp, by simp, by simp, by simp⟩) rfl (by simp [at4, at3, evAV, sortedKeys, ho] <;> rfl) (by kernel_rfl) (by simp) rfl ?_
          rintro x σ' ⟨rfl, rfl⟩
          rw [show deliverW ⟨[v, -1], 0, [(4, ⟨pay, 1, 1⟩)], [⟨true, ⟨pay, 4, v⟩⟩], [⟨pay, 4, v⟩], 1⟩ 0 = ((⟨pay, 4, v⟩, true), ⟨[v, -1], 0, [], [], [⟨pay, 4, v⟩], 1⟩) from rfl]
          refine OpsA.all (by simp [at4, at3, evAV, sortedKeys, ho, pay] <;> rfl) ?_
          refine Tri.seqR ttok rfl ?_
          refine OpsA.allG (by simp [at4, at3, evAV, sortedKeys, ho, pay] <;> rfl) ?_
          refine Tri.ret ?_
          exact fnPost.tmp (.inr rfl) rfl (by rfl) (by simp <;> rfl) (by exact True.intro) (Stays.law fun n hn => by simp only [σ_put, σ_with, u4, u3]; rw [putL_lt hn]; simp [none0_at, show n ≠ c + 4 by omega, show n ≠ c + 3 by omega]) rfl
      · refine Tri.seq ?_
        refine Tri.seqR ttok rfl ?_
        refine OpsA.runX 1 (by simp [at4, at3, evAV, sortedKeys] <;> rfl) ?_
        simp only [List.drop]
        refine OpsA.call (lflight ⟨by simp, by simp, by simp, by simp, by simp, by simp, by simp⟩) rfl (by simp [at4, at3, evAV, sortedKeys] <;> rfl) (by kernel_rfl) (by simp) rfl ?_
        rintro x σ' ⟨rfl, rfl⟩
        refine OpsA.all (by simp [at4, at3, evAV, sortedKeys] <;> rfl) ?_
        refine Tri.cond (b := true) (by simp [at4, at3, evAV, sortedKeys]) (fun _ => ?_) (fun h => by cases h)
        refine Tri.skip ?_
        refine Tri.block ?_
        refine Tri.seqR ttok rfl ?_
        refine OpsA.runX 1 (by simp [at4, at3, evAV, sortedKeys] <;> rfl) ?_
        simp only [List.drop]
        refine OpsA.call (ldrop (i := 0) (by exact ⟨by simp, by simp, by simp, by simp, by simp, by simp, by simp⟩)) rfl (by simp [at4, at3, evAV, sortedKeys] <;> rfl) (by kernel_rfl) (by simp) rfl ?_
        rintro x σ' ⟨rfl, rfl⟩
        rw [show dropW ⟨[v, -1], 0, [], [m], [⟨pay, 4, v⟩], 1⟩ 0 = ⟨[v, -1], 0, [], [], [⟨pay, 4, v⟩], 1⟩ from rfl]
        refine OpsA.all (by simp [at4, at3, evAV, sortedKeys] <;> rfl) ?_
        refine Tri.cond (b := false) (by simp [at4, at3, evAV, sortedKeys]) (fun h => by cases h) (fun _ => ?_)
        refine Tri.skip ?_
        try simp only [thenQ, blockQ]
        exact ⟨[], by simp, by simp, Le.gh ⟨LeT.cons (by simp) (LeT.cons (by simp) (LeT.cons (by simp) (LeT.cons (by simp) (LeT.cons (by simp) (LeT.nil))))), by simp, by simp, by simp, rfl, rfl⟩⟩
end Go.Proofs.Ytilpklkgmibpgaa
