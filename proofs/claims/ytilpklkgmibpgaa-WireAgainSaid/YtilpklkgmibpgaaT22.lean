import Derived.Test.YtilpklkgmibpgaaT21
namespace Go.Proofs.Ytilpklkgmibpgaa
open Go.Ab
set_option maxHeartbeats 400000
set_option linter.unusedVariables false
set_option linter.unusedSimpArgs false
attribute [local simp] tt3 tt4 tt9 tt22 tt24 tt30 tt31 tt36 tt42 tt55 tt57 tt63
attribute [local simp] eqA sliceEq rowsA fillR appendA AV.lt mapElem lookupA mapPutA mapDelA mapClearA lenA sliceA indexA nth buildA fillA placesA TI.zv nilEq fieldOfA
attribute [local simp] List.filter_cons


def m9 : Msg := ⟨false, ⟨pay, 9, 0⟩⟩
def e9 : Ev := ⟨pay, 9, 5⟩
def wA (i n : Nat) (next wait : Int) : Wire := ⟨[5], i, [(9, ⟨pay, next, wait⟩)], List.replicate n m9, [], 0⟩
def wD (i n : Nat) (next wait : Int) : Wire := ⟨[5], i, [(9, ⟨pay, next, wait⟩)], List.replicate n m9 ++ [⟨true, e9⟩], [e9], 1⟩
def wB (i n : Nat) (ap : List Ev) (g : Nat) : Wire := ⟨[5], i, [], List.replicate n m9, ap, g⟩
theorem tA {i n : Nat} {next wait : Int} : tickW (wA i n next wait) = if next = (i : Int) + 1 then wA (i + 1) (n + 1) ((i : Int) + 1 + min (2 * wait) 8) (min (2 * wait) 8) else wA (i + 1) n next wait := by
  unfold tickW
  rw [show sortedKeys (wA i n next wait) = [9] by simp [sortedKeys, wA]]
  by_cases h : next = (i : Int) + 1
  · subst h
    simp [tickAll, tick1, getO, wA, again, setO, List.replicate_succ', m9]
  · simp [tickAll, tick1, getO, wA, h]
theorem tB {i n : Nat} {ap : List Ev} {g : Nat} : tickW (wB i n ap g) = wB (i + 1) n ap g := by
  rw [tickW_none (w := wB i n ap g) rfl]
  simp [wB]
theorem dA {i n : Nat} {next wait : Int} : deliverW (wA i (n + 1) next wait) 0 = ((⟨[], 0, 0⟩, false), wD i n next wait) := by
  rw [deliver_ask (m := m9) (r := List.replicate n m9) (by simp [wA, List.replicate_succ]) rfl]
  simp [wA, wD, valueW, valueOf, m9, e9]
theorem dD {i n : Nat} {next wait : Int} : deliverW (wD i n next wait) (n : Int) = ((e9, true), wB i n [e9] 1) := by
  have h1 : (wD i n next wait).flight[n]? = some ⟨true, e9⟩ := by simp [wD]
  have h2 : (wD i n next wait).flight.length = n + 1 := by simp [wD]
  have h3 : dropW (wD i n next wait) (n : Int) = { wD i n next wait with flight := List.replicate n m9 } := by
    unfold dropW
    rw [if_pos (by rw [h2]; omega)]
    simp [wD, List.eraseIdx_append_of_length_le]
  unfold deliverW
  rw [show (if (0 : Int) ≤ (n : Int) then (wD i n next wait).flight[(n : Int).toNat]? else none) = some ⟨true, e9⟩ by simp [h1]]
  simp only [h3, if_true]
  simp [wD, wB, hasO, e9, del]
theorem fA {i n : Nat} {next wait : Int} : forgetW (wA i n next wait) 9 = wB i n [] 0 := by simp [forgetW, wA, wB, del]
theorem wokA {i n : Nat} {next wait : Int} (hi : i ≤ 100) (hn : n ≤ 100) : WOk (wA i n next wait) := ⟨by simp [wA], by simp [wA]; omega, by simp [wA], by simp [wA]; omega, by simp [wA], by simp [wA], by simp [wA]⟩
theorem wokD {i n : Nat} {next wait : Int} (hi : i ≤ 100) (hn : n ≤ 100) : WOk (wD i n next wait) := ⟨by simp [wD], by simp [wD]; omega, by simp [wD], by simp [wD]; omega, by simp [wD], by simp [wD], by simp [wD]⟩
theorem wokB {i n : Nat} {ap : List Ev} {g : Nat} (hi : i ≤ 100) (hn : n ≤ 100) (ha : ap.length ≤ 1) : WOk (wB i n ap g) := ⟨by simp [wB], by simp [wB]; omega, by simp [wB]; omega, by simp [wB]; omega, by simp [wB], by simp [wB], by simp [wB]⟩
theorem lenA9 {i n : Nat} {next wait : Int} : (wA i n next wait).flight.length = n := by simp [wA]
theorem lenB9 {i n : Nat} {ap : List Ev} {g : Nat} : (wB i n ap g).flight.length = n := by simp [wB]
theorem lenD9 {i n : Nat} {next wait : Int} : (wD i n next wait).flight.length = n + 1 := by simp [wD]
theorem skA {i n : Nat} {next wait : Int} : sortedKeys (wA i n next wait) = [9] := by simp [sortedKeys, wA]
theorem skB {i n : Nat} {ap : List Ev} {g : Nat} : sortedKeys (wB i n ap g) = [] := by simp [sortedKeys, wB]

/-- What holds at a round's head: the key is open, to be asked again at 'next'; or it was told, or forgotten. -/
structure AOk (e : Int) (i n : Nat) (next wait : Int) (w : Wire) : Prop where
  nb : n ≤ i + 1
  wt : 1 ≤ wait ∧ wait ≤ 8
  or : (w = wA i n next wait ∧ 1 ≤ n ∧ (i : Int) < next ∧ next ≤ i + 8 ∧ (e = 0 ∨ (i : Int) < e)) ∨ (∃ ap g, w = wB i n ap g ∧ ap.length ≤ 1 ∧ next = 0 ∧ 0 < e ∧ e ≤ i)
theorem call_law7 {ticks stop : Int} {told : Bool} : CallA Try.prog 7 [.int .i64 ticks, .int .i64 stop, .bool told] (fun _ => none) [] fun x _ => x = .bool true := by
  refine CallA.of ttok Try.func7 rfl (show 3 ≤ 73 by decide) fun c hF => ?_
  refine Tri.fresh (Tri.fresh (Tri.fresh ?_))
  refine Tri.seqX ttok rfl (by simp <;> rfl) ?_
  refine Tri.seq ?_
  refine Tri.seqR ttok rfl ?_
  refine OpsA.call (lknown) rfl (by simp <;> rfl) (by kernel_rfl) (by simp) rfl ?_
  rintro x σ1 ⟨rfl, rfl⟩
  refine OpsA.all (by simp <;> rfl) ?_
  refine Tri.cond (b := false) (by simp) (fun h => by cases h) (fun _ => ?_)
  refine Tri.skip ?_
  refine Tri.seqR ttok rfl ?_
  refine OpsA.runX 1 (by simp <;> rfl) ?_
  simp only [List.drop]
  refine OpsA.call (lnew (c := c) (vs := [5]) (by simp)) rfl (by simp [intRow] <;> rfl) (by kernel_rfl) (by simp) rfl ?_
  rintro x σ1 ⟨rfl, rfl⟩
  refine OpsA.all (by simp <;> rfl) ?_
  refine Tri.seq ?_
  refine Tri.seqX ttok rfl (by simp <;> rfl) ?_
  refine Tri.cond (b := false) (by simp) (fun h => by cases h) (fun _ => ?_)
  refine Tri.skip ?_
  refine Tri.seqR ttok rfl ?_
  refine OpsA.runX 2 (by simp <;> rfl) ?_
  simp only [List.drop]
  refine OpsA.call (lask (e := ⟨pay, 9, 0⟩) ⟨by simp, by simp, by simp, by simp, by simp, by simp, by simp⟩) rfl (by simp [evAV] <;> rfl) (by kernel_rfl) (by simp) rfl ?_
  rintro x σ' ⟨rfl, rfl⟩
  rw [show askW ⟨[5], 0, [], [], [], 0⟩ ⟨pay, 9, 0⟩ = wA 0 1 1 1 from rfl]
  have hwb := within_bounds ticks (n := 60) (by omega)
  have hwe := within_bounds stop (n := 60) (by omega)
  obtain ⟨m, hmw, hm60⟩ : ∃ m : Nat, within ticks 60 = m ∧ m < 60 := ⟨(within ticks 60).toNat, by omega, by omega⟩
  refine OpsA.nil ?_
  refine Tri.seqX ttok rfl (by simp <;> rfl) ?_
  refine Tri.seqR ttok rfl ?_
  refine OpsA.runX 1 (by simp <;> rfl) ?_
  simp only [List.drop]
  refine OpsA.call (call_within (a := stop) (n := 60) (by omega) (by omega)) rfl (by simp <;> rfl) (by kernel_rfl) (by simp) rfl ?_
  rintro x σ' ⟨rfl, rfl⟩
  generalize within stop 60 = e at *
  refine OpsA.all (by simp <;> rfl) ?_
  refine Tri.seq ?_
  refine Tri.seqX ttok rfl (by simp <;> rfl) ?_
  refine Tri.block ?_
  refine Tri.loopL (α := Nat × Nat × Int × Int × Wire) (fun x => ({ t := tl [(0, .int .i64 ticks), (2, .bool told), (7, .ptr (c + 2) 0), (8, .int .i64 x.2.2.1), (9, .int .i64 x.2.2.2.1), (10, .int .i64 (x.2.1 : Int)), (11, .int .i64 e), (12, .int .i64 ((x.1 : Int) + 1))], σ := putL c none0 x.2.2.2.2, c := c + 3, fr := [], m := 73, ds := [] } : AS)) (fun x => m + 1 - x.1) (fun x => x.1 ≤ m ∧ AOk e x.1 x.2.1 x.2.2.1 x.2.2.2.1 x.2.2.2.2) (0, 1, 1, 1, wA 0 1 1 1) ?_ ⟨Nat.zero_le _, by dsimp only; omega, by dsimp only; omega, .inl ⟨rfl, by dsimp only; omega, by simp, by simp, by simp; omega⟩⟩ ?_
  · refine Le.gh ⟨?_, ?_, ?_, ?_, ?_, ?_⟩
    · exact LeT.cons (by simp) (LeT.cons (by simp) (LeT.cons (by simp) (LeT.cons (by simp) (LeT.cons (by simp) (LeT.cons (by simp) (LeT.cons (by simp) (LeT.cons (by simp) (LeT.nil))))))))
    · simp
    · simp
    · simp
    · rfl
    · rfl
  · rintro ⟨i, n, next, wait, w⟩ ⟨him, hn, hwt, hor⟩
    dsimp only at him hn hwt hor ⊢
    have e13 : IntKind.i64.wrap ((i : Int) + 1 + 1) = (((i + 1 : Nat) : Int) + 1) := by rw [wrap_id (by omega) (by omega)]; omega
    refine Tri.seq ?_
    refine Tri.seqR ttok rfl ?_
    refine OpsA.runX 2 (by simp <;> rfl) ?_
    simp only [List.drop]
    refine OpsA.call (call_within (a := ticks) (n := 60) (by omega) (by omega)) rfl (by simp <;> rfl) (by kernel_rfl) (by simp) rfl ?_
    rintro x σ' ⟨rfl, rfl⟩
    rw [hmw]
    rcases (show (i < m ∧ (i : Int) + 1 ≤ m) ∨ (i = m ∧ ¬ (i : Int) + 1 ≤ m) by omega) with ⟨hi, hi'⟩ | ⟨hi, hi'⟩
    · refine OpsA.all (by simp [hi'] <;> rfl) ?_
      refine Tri.cond (b := true) (by simp [hi']) (fun _ => ?_) (fun h => by cases h)
      rcases hor with ⟨rfl, hn1, hnx, hnx8, he⟩ | ⟨ap, g, rfl, hap, rfl, he0, hei⟩
      · by_cases hte : (i : Int) + 1 = e
        · subst hte
          refine Tri.skip ?_
          refine Tri.seq ?_
          refine Tri.block ?_
          refine Tri.seq ?_
          refine Tri.seqX ttok rfl (by simp [hi'] <;> rfl) ?_
          refine Tri.cond (b := true) (by simp [hi']) (fun _ => ?_) (fun h => by cases h)
          obtain ⟨n, rfl⟩ : ∃ k, n = k + 1 := ⟨n - 1, by omega⟩
          have en : True := trivial
          cases told
          · refine Tri.seq ?_
            refine Tri.seqX ttok rfl (by simp [hi'] <;> rfl) ?_
            refine Tri.cond (b := false) (by simp [hi']) (fun h => by cases h) (fun _ => ?_)
            refine Tri.region ttok rfl ?_
            refine OpsA.runX 1 (by simp [hi'] <;> rfl) ?_
            simp only [List.drop]
            refine OpsA.call (lforget (k := 9) (wokA (by omega) (by omega))) rfl (by simp [hi'] <;> rfl) (by kernel_rfl) (by simp) rfl ?_
            rintro x σ' ⟨rfl, rfl⟩
            rw [fA]
            refine OpsA.nil ?_
            refine Tri.x ttok rfl (by simp [(show ¬ (i : Int) + 1 = 0 by omega), lenB9, skB, en] <;> rfl) ?_
            refine Tri.seqR ttok rfl ?_
            refine OpsA.runX 1 (by simp [(show ¬ (i : Int) + 1 = 0 by omega), lenB9, skB, en] <;> rfl) ?_
            simp only [List.drop]
            refine OpsA.call (ltick (w := wB i (n + 1) [] 0) (wokB (by omega) (by omega) (by simp)) (by simp [wB]) (by simp [wB]; omega)) rfl (by simp [(show ¬ (i : Int) + 1 = 0 by omega), lenB9, skB, en] <;> rfl) (by kernel_rfl) (by simp) rfl ?_
            rintro x σ' ⟨rfl, rfl⟩
            rw [tB]
            refine OpsA.nil ?_
            refine Tri.seq ?_
            refine Tri.seqX ttok rfl (by simp [(show ¬ (i : Int) + 1 = 0 by omega), lenB9, skB, en] <;> rfl) ?_
            refine Tri.cond (b := false) (by simp [(show ¬ (i : Int) + 1 = 0 by omega), lenB9, skB, en]) (fun h => by cases h) (fun _ => ?_)
            refine Tri.skip ?_
            refine Tri.seqR ttok rfl ?_
            refine OpsA.runG 1 (by simp [(show ¬ (i : Int) + 1 = 0 by omega), lenB9, skB, en] <;> rfl) ?_
            simp only [List.drop]
            refine OpsA.call (lflight (wokB (by omega) (by omega) (by simp))) rfl (by simp [(show ¬ (i : Int) + 1 = 0 by omega), lenB9, skB, en] <;> rfl) (by kernel_rfl) (by simp) rfl ?_
            rintro x σ' ⟨rfl, rfl⟩
            refine OpsA.runG 5 (by simp [(show ¬ (i : Int) + 1 = 0 by omega), lenB9, skB, en] <;> rfl) ?_
            simp only [List.drop]
            refine OpsA.guard rfl rfl (by simp [(show ¬ (i : Int) + 1 = 0 by omega), lenB9, skB, en] <;> rfl) (fun _ => ?_) (fun h => absurd rfl h)
            refine OpsA.call (lopen (wokB (by omega) (by omega) (by simp))) rfl (by simp [(show ¬ (i : Int) + 1 = 0 by omega), lenB9, skB, en] <;> rfl) (by kernel_rfl) (by simp) rfl ?_
            rintro x σ' ⟨rfl, rfl⟩
            refine OpsA.allG (by simp [(show ¬ (i : Int) + 1 = 0 by omega), lenB9, skB, en] <;> rfl) ?_
            refine Tri.cond (b := false) (by simp [(show ¬ (i : Int) + 1 = 0 by omega), lenB9, skB, en]) (fun h => by cases h) (fun _ => ?_)
            refine Tri.skip ?_
            try simp only [thenQ, blockQ]
            refine Tri.x ttok rfl (by simp [(show ¬ (i : Int) + 1 = 0 by omega), lenB9, skB, en] <;> rfl) ?_
            refine ⟨(i + 1, n + 1, 0, wait, wB (i + 1) (n + 1) [] 0), ⟨by dsimp only; omega, ⟨by dsimp only; omega, hwt, .inr ⟨_, _, rfl, (by simp), rfl, by omega, by dsimp only; omega⟩⟩⟩, by dsimp only; omega, Le.gh ⟨LeT.cons (by simp [e13, en]) (LeT.cons (by simp [e13, en]) (LeT.cons (by simp [e13, en]) (LeT.cons (by simp [e13, en]) (LeT.cons (by simp [e13, en]) (LeT.cons (by simp [e13, en]) (LeT.cons (by simp [e13, en]) (LeT.cons (by simp [e13, en]) (LeT.nil)))))))), by simp, by simp, by simp, rfl, rfl⟩⟩
          · have en1 : IntKind.i64.wrap ((n : Int) + 1 - 1) = n := by rw [wrap_id (by omega) (by omega)]; omega
            have en2 : IntKind.i64.wrap (n : Int) = n := wrap_id (by omega) (by omega)
            have en := en2
            refine Tri.seq ?_
            refine Tri.seqX ttok rfl (by simp [hi'] <;> rfl) ?_
            refine Tri.cond (b := true) (by simp [hi']) (fun _ => ?_) (fun h => by cases h)
            refine Tri.seqR ttok rfl ?_
            refine OpsA.runX 1 (by simp [hi'] <;> rfl) ?_
            simp only [List.drop]
            refine OpsA.call (ldeliver (i := 0) (wokA (by omega) (by omega))) rfl (by simp [hi'] <;> rfl) (by kernel_rfl) (by simp) rfl ?_
            rintro x σ' ⟨rfl, rfl⟩
            rw [dA]
            refine OpsA.nil ?_
            refine Tri.seqR ttok rfl ?_
            refine OpsA.runX 2 (by simp [hi', lenD9, en1, en2] <;> rfl) ?_
            simp only [List.drop]
            refine OpsA.call (lflight (wokD (by omega) (by omega))) rfl (by simp [hi', lenD9, en1, en2] <;> rfl) (by kernel_rfl) (by simp) rfl ?_
            rintro x σ' ⟨rfl, rfl⟩
            refine OpsA.runX 2 (by simp [hi', lenD9, en1, en2] <;> rfl) ?_
            simp only [List.drop]
            refine OpsA.call (ldeliver (i := (n : Int)) (wokD (by omega) (by omega))) rfl (by simp [hi', lenD9, en1, en2] <;> rfl) (by kernel_rfl) (by simp) rfl ?_
            rintro x σ' ⟨rfl, rfl⟩
            rw [dD]
            refine OpsA.nil ?_
            refine Tri.x ttok rfl (by simp [(show ¬ (i : Int) + 1 = 0 by omega), lenB9, skB, en] <;> rfl) ?_
            refine Tri.x ttok rfl (by simp [(show ¬ (i : Int) + 1 = 0 by omega), lenB9, skB, en] <;> rfl) ?_
            refine Tri.seqR ttok rfl ?_
            refine OpsA.runX 1 (by simp [(show ¬ (i : Int) + 1 = 0 by omega), lenB9, skB, en] <;> rfl) ?_
            simp only [List.drop]
            refine OpsA.call (ltick (w := wB i (n) [e9] 1) (wokB (by omega) (by omega) (by simp)) (by simp [wB]) (by simp [wB]; omega)) rfl (by simp [(show ¬ (i : Int) + 1 = 0 by omega), lenB9, skB, en] <;> rfl) (by kernel_rfl) (by simp) rfl ?_
            rintro x σ' ⟨rfl, rfl⟩
            rw [tB]
            refine OpsA.nil ?_
            refine Tri.seq ?_
            refine Tri.seqX ttok rfl (by simp [(show ¬ (i : Int) + 1 = 0 by omega), lenB9, skB, en] <;> rfl) ?_
            refine Tri.cond (b := false) (by simp [(show ¬ (i : Int) + 1 = 0 by omega), lenB9, skB, en]) (fun h => by cases h) (fun _ => ?_)
            refine Tri.skip ?_
            refine Tri.seqR ttok rfl ?_
            refine OpsA.runG 1 (by simp [(show ¬ (i : Int) + 1 = 0 by omega), lenB9, skB, en] <;> rfl) ?_
            simp only [List.drop]
            refine OpsA.call (lflight (wokB (by omega) (by omega) (by simp))) rfl (by simp [(show ¬ (i : Int) + 1 = 0 by omega), lenB9, skB, en] <;> rfl) (by kernel_rfl) (by simp) rfl ?_
            rintro x σ' ⟨rfl, rfl⟩
            refine OpsA.runG 5 (by simp [(show ¬ (i : Int) + 1 = 0 by omega), lenB9, skB, en] <;> rfl) ?_
            simp only [List.drop]
            refine OpsA.guard rfl rfl (by simp [(show ¬ (i : Int) + 1 = 0 by omega), lenB9, skB, en] <;> rfl) (fun _ => ?_) (fun h => absurd rfl h)
            refine OpsA.call (lopen (wokB (by omega) (by omega) (by simp))) rfl (by simp [(show ¬ (i : Int) + 1 = 0 by omega), lenB9, skB, en] <;> rfl) (by kernel_rfl) (by simp) rfl ?_
            rintro x σ' ⟨rfl, rfl⟩
            refine OpsA.allG (by simp [(show ¬ (i : Int) + 1 = 0 by omega), lenB9, skB, en] <;> rfl) ?_
            refine Tri.cond (b := false) (by simp [(show ¬ (i : Int) + 1 = 0 by omega), lenB9, skB, en]) (fun h => by cases h) (fun _ => ?_)
            refine Tri.skip ?_
            try simp only [thenQ, blockQ]
            refine Tri.x ttok rfl (by simp [(show ¬ (i : Int) + 1 = 0 by omega), lenB9, skB, en] <;> rfl) ?_
            refine ⟨(i + 1, n, 0, wait, wB (i + 1) (n) [e9] 1), ⟨by dsimp only; omega, ⟨by dsimp only; omega, hwt, .inr ⟨_, _, rfl, (by simp), rfl, by omega, by dsimp only; omega⟩⟩⟩, by dsimp only; omega, Le.gh ⟨LeT.cons (by simp [e13, en]) (LeT.cons (by simp [e13, en]) (LeT.cons (by simp [e13, en]) (LeT.cons (by simp [e13, en]) (LeT.cons (by simp [e13, en]) (LeT.cons (by simp [e13, en]) (LeT.cons (by simp [e13, en]) (LeT.cons (by simp [e13, en]) (LeT.nil)))))))), by simp, by simp, by simp, rfl, rfl⟩⟩
        · refine Tri.skip ?_
          refine Tri.seq ?_
          refine Tri.block ?_
          refine Tri.seq ?_
          refine Tri.seqX ttok rfl (by simp [hi', hte] <;> rfl) ?_
          refine Tri.cond (b := false) (by simp [hi', hte]) (fun h => by cases h) (fun _ => ?_)
          by_cases hx : next = (i : Int) + 1
          · subst hx
            have f1 : IntKind.i64.wrap (2 * wait) = 2 * wait := wrap_id (by omega) (by omega)
            have f2 : (if 2 * wait < 8 then 2 * wait else 8) = min (2 * wait) 8 := by split <;> omega
            have f3 : IntKind.i64.wrap ((i : Int) + 1 + min (2 * wait) 8) = (i : Int) + 1 + min (2 * wait) 8 := wrap_id (by omega) (by omega)
            have f4 : IntKind.i64.wrap ((n : Int) + 1) = ((n + 1 : Nat) : Int) := by rw [wrap_id (by omega) (by omega)]; omega
            have f5 : (0 : Int) < (i : Int) + 1 + min (2 * wait) 8 := by omega
            refine Tri.skip ?_
            refine Tri.seqR ttok rfl ?_
            refine OpsA.runX 1 (by simp [hi', hte, f5] <;> rfl) ?_
            simp only [List.drop]
            refine OpsA.call (ltick (w := wA i n ((i : Int) + 1) wait) (wokA (by omega) (by omega)) (by simp [wA]; omega) (by simp [wA]; omega)) rfl (by simp [hi', hte, f5] <;> rfl) (by kernel_rfl) (by simp) rfl ?_
            rintro x σ' ⟨rfl, rfl⟩
            rw [tA, if_pos rfl]
            refine OpsA.nil ?_
            refine Tri.seq ?_
            refine Tri.seqX ttok rfl (by simp [hi', hte, f5, f1, f2, f3, f4] <;> rfl) ?_
            refine Tri.cond (b := true) (by simp [hi', hte, f5, f1, f2, f3, f4]) (fun _ => ?_) (fun h => by cases h)
            refine Tri.seqX ttok rfl (by simp [hi', hte, f5, f1, f2, f3, f4, lenA9, skA] <;> rfl) ?_
            refine Tri.seqX ttok rfl (by simp [hi', hte, f5, f1, f2, f3, f4, lenA9, skA] <;> rfl) ?_
            refine Tri.x ttok rfl (by simp [hi', hte, f5, f1, f2, f3, f4, lenA9, skA] <;> rfl) ?_
            refine Tri.seqR ttok rfl ?_
            refine OpsA.runG 1 (by simp [hi', hte, f5, f1, f2, f3, f4, lenA9, skA] <;> rfl) ?_
            simp only [List.drop]
            refine OpsA.call (lflight (wokA (by omega) (by omega))) rfl (by simp [hi', hte, f5, f1, f2, f3, f4, lenA9, skA] <;> rfl) (by kernel_rfl) (by simp) rfl ?_
            rintro x σ' ⟨rfl, rfl⟩
            refine OpsA.runG 5 (by simp [hi', hte, f5, f1, f2, f3, f4, lenA9, skA] <;> rfl) ?_
            simp only [List.drop]
            refine OpsA.guard rfl rfl (by simp [hi', hte, f5, f1, f2, f3, f4, lenA9, skA] <;> rfl) (fun _ => ?_) (fun h => absurd rfl h)
            refine OpsA.call (lopen (wokA (by omega) (by omega))) rfl (by simp [hi', hte, f5, f1, f2, f3, f4, lenA9, skA] <;> rfl) (by kernel_rfl) (by simp) rfl ?_
            rintro x σ' ⟨rfl, rfl⟩
            refine OpsA.allG (by simp [hi', hte, f5, f1, f2, f3, f4, lenA9, skA] <;> rfl) ?_
            refine Tri.cond (b := false) (by simp [hi', hte, f5, f1, f2, f3, f4, lenA9, skA]) (fun h => by cases h) (fun _ => ?_)
            refine Tri.skip ?_
            try simp only [thenQ, blockQ]
            refine Tri.x ttok rfl (by simp [hi', hte, f5, f1, f2, f3, f4, lenA9, skA] <;> rfl) ?_
            refine ⟨(i + 1, n + 1, (i : Int) + 1 + min (2 * wait) 8, min (2 * wait) 8, wA (i + 1) (n + 1) ((i : Int) + 1 + min (2 * wait) 8) (min (2 * wait) 8)), ⟨by dsimp only; omega, ⟨by dsimp only; omega, by dsimp only; omega, .inl ⟨rfl, by dsimp only; omega, by dsimp only; omega, by dsimp only; omega, by dsimp only; omega⟩⟩⟩, by dsimp only; omega, Le.gh ⟨LeT.cons (by simp [e13, f1, f2, f3, f4]) (LeT.cons (by simp [e13, f1, f2, f3, f4]) (LeT.cons (by simp [e13, f1, f2, f3, f4]) (LeT.cons (by simp [e13, f1, f2, f3, f4]) (LeT.cons (by simp [e13, f1, f2, f3, f4]) (LeT.cons (by simp [e13, f1, f2, f3, f4]) (LeT.cons (by simp [e13, f1, f2, f3, f4]) (LeT.cons (by simp [e13, f1, f2, f3, f4]) (LeT.nil)))))))), by simp, by simp, by simp, rfl, rfl⟩⟩
          · have hx' : ¬ (i : Int) + 1 = next := fun e => hx e.symm
            refine Tri.skip ?_
            refine Tri.seqR ttok rfl ?_
            refine OpsA.runX 1 (by simp [hi', hte] <;> rfl) ?_
            simp only [List.drop]
            refine OpsA.call (ltick (w := wA i n next wait) (wokA (by omega) (by omega)) (by simp [wA]; omega) (by simp [wA]; omega)) rfl (by simp [hi', hte] <;> rfl) (by kernel_rfl) (by simp) rfl ?_
            rintro x σ' ⟨rfl, rfl⟩
            rw [tA, if_neg hx]
            refine OpsA.nil ?_
            refine Tri.seq ?_
            refine Tri.seqX ttok rfl (by simp [hi', hte, hx', (show (0 : Int) < next by omega), lenA9, skA] <;> rfl) ?_
            refine Tri.cond (b := false) (by simp [hi', hte, hx', (show (0 : Int) < next by omega), lenA9, skA]) (fun h => by cases h) (fun _ => ?_)
            refine Tri.skip ?_
            refine Tri.seqR ttok rfl ?_
            refine OpsA.runG 1 (by simp [hi', hte, hx', (show (0 : Int) < next by omega), lenA9, skA] <;> rfl) ?_
            simp only [List.drop]
            refine OpsA.call (lflight (wokA (by omega) (by omega))) rfl (by simp [hi', hte, hx', (show (0 : Int) < next by omega), lenA9, skA] <;> rfl) (by kernel_rfl) (by simp) rfl ?_
            rintro x σ' ⟨rfl, rfl⟩
            refine OpsA.runG 5 (by simp [hi', hte, hx', (show (0 : Int) < next by omega), lenA9, skA] <;> rfl) ?_
            simp only [List.drop]
            refine OpsA.guard rfl rfl (by simp [hi', hte, hx', (show (0 : Int) < next by omega), lenA9, skA] <;> rfl) (fun _ => ?_) (fun h => absurd rfl h)
            refine OpsA.call (lopen (wokA (by omega) (by omega))) rfl (by simp [hi', hte, hx', (show (0 : Int) < next by omega), lenA9, skA] <;> rfl) (by kernel_rfl) (by simp) rfl ?_
            rintro x σ' ⟨rfl, rfl⟩
            refine OpsA.allG (by simp [hi', hte, hx', (show (0 : Int) < next by omega), lenA9, skA] <;> rfl) ?_
            refine Tri.cond (b := false) (by simp [hi', hte, hx', (show (0 : Int) < next by omega), lenA9, skA]) (fun h => by cases h) (fun _ => ?_)
            refine Tri.skip ?_
            try simp only [thenQ, blockQ]
            refine Tri.x ttok rfl (by simp [hi', hte, hx', (show (0 : Int) < next by omega), lenA9, skA] <;> rfl) ?_
            refine ⟨(i + 1, n, next, wait, wA (i + 1) n next wait), ⟨by dsimp only; omega, ⟨by dsimp only; omega, hwt, .inl ⟨rfl, hn1, by dsimp only; omega, by dsimp only; omega, by dsimp only; omega⟩⟩⟩, by dsimp only; omega, Le.gh ⟨LeT.cons (by simp [e13]) (LeT.cons (by simp [e13]) (LeT.cons (by simp [e13]) (LeT.cons (by simp [e13]) (LeT.cons (by simp [e13]) (LeT.cons (by simp [e13]) (LeT.cons (by simp [e13]) (LeT.cons (by simp [e13]) (LeT.nil)))))))), by simp, by simp, by simp, rfl, rfl⟩⟩
      · have en : True := trivial
        refine Tri.skip ?_
        refine Tri.seq ?_
        refine Tri.block ?_
        refine Tri.seq ?_
        refine Tri.seqX ttok rfl (by simp [hi', (show ¬ (i : Int) + 1 = e by omega)] <;> rfl) ?_
        refine Tri.cond (b := false) (by simp [hi', (show ¬ (i : Int) + 1 = e by omega)]) (fun h => by cases h) (fun _ => ?_)
        refine Tri.skip ?_
        refine Tri.seqR ttok rfl ?_
        refine OpsA.runX 1 (by simp [(show ¬ (i : Int) + 1 = 0 by omega), lenB9, skB, en] <;> rfl) ?_
        simp only [List.drop]
        refine OpsA.call (ltick (w := wB i (n) ap g) (wokB (by omega) (by omega) hap) (by simp [wB]) (by simp [wB]; omega)) rfl (by simp [(show ¬ (i : Int) + 1 = 0 by omega), lenB9, skB, en] <;> rfl) (by kernel_rfl) (by simp) rfl ?_
        rintro x σ' ⟨rfl, rfl⟩
        rw [tB]
        refine OpsA.nil ?_
        refine Tri.seq ?_
        refine Tri.seqX ttok rfl (by simp [(show ¬ (i : Int) + 1 = 0 by omega), lenB9, skB, en] <;> rfl) ?_
        refine Tri.cond (b := false) (by simp [(show ¬ (i : Int) + 1 = 0 by omega), lenB9, skB, en]) (fun h => by cases h) (fun _ => ?_)
        refine Tri.skip ?_
        refine Tri.seqR ttok rfl ?_
        refine OpsA.runG 1 (by simp [(show ¬ (i : Int) + 1 = 0 by omega), lenB9, skB, en] <;> rfl) ?_
        simp only [List.drop]
        refine OpsA.call (lflight (wokB (by omega) (by omega) hap)) rfl (by simp [(show ¬ (i : Int) + 1 = 0 by omega), lenB9, skB, en] <;> rfl) (by kernel_rfl) (by simp) rfl ?_
        rintro x σ' ⟨rfl, rfl⟩
        refine OpsA.runG 5 (by simp [(show ¬ (i : Int) + 1 = 0 by omega), lenB9, skB, en] <;> rfl) ?_
        simp only [List.drop]
        refine OpsA.guard rfl rfl (by simp [(show ¬ (i : Int) + 1 = 0 by omega), lenB9, skB, en] <;> rfl) (fun _ => ?_) (fun h => absurd rfl h)
        refine OpsA.call (lopen (wokB (by omega) (by omega) hap)) rfl (by simp [(show ¬ (i : Int) + 1 = 0 by omega), lenB9, skB, en] <;> rfl) (by kernel_rfl) (by simp) rfl ?_
        rintro x σ' ⟨rfl, rfl⟩
        refine OpsA.allG (by simp [(show ¬ (i : Int) + 1 = 0 by omega), lenB9, skB, en] <;> rfl) ?_
        refine Tri.cond (b := false) (by simp [(show ¬ (i : Int) + 1 = 0 by omega), lenB9, skB, en]) (fun h => by cases h) (fun _ => ?_)
        refine Tri.skip ?_
        try simp only [thenQ, blockQ]
        refine Tri.x ttok rfl (by simp [(show ¬ (i : Int) + 1 = 0 by omega), lenB9, skB, en] <;> rfl) ?_
        refine ⟨(i + 1, n, 0, wait, wB (i + 1) (n) ap g), ⟨by dsimp only; omega, ⟨by dsimp only; omega, hwt, .inr ⟨_, _, rfl, hap, rfl, by omega, by dsimp only; omega⟩⟩⟩, by dsimp only; omega, Le.gh ⟨LeT.cons (by simp [e13, en]) (LeT.cons (by simp [e13, en]) (LeT.cons (by simp [e13, en]) (LeT.cons (by simp [e13, en]) (LeT.cons (by simp [e13, en]) (LeT.cons (by simp [e13, en]) (LeT.cons (by simp [e13, en]) (LeT.cons (by simp [e13, en]) (LeT.nil)))))))), by simp, by simp, by simp, rfl, rfl⟩⟩
    · refine OpsA.all (by simp [hi'] <;> rfl) ?_
      refine Tri.cond (b := false) (by simp [hi']) (fun h => by cases h) (fun _ => ?_)
      refine Tri.exit ?_
      try simp only [thenQ, blockQ, if_true]
      refine Tri.seqX ttok rfl (by simp [hi'] <;> rfl) ?_
      refine Tri.ret ?_
      exact fnPost.tmp (.inr rfl) rfl (by rfl) (by simp <;> rfl) (by exact True.intro) (Stays.law fun n hn => by simp [putL_lt hn, none0_at]) rfl
end Go.Proofs.Ytilpklkgmibpgaa
