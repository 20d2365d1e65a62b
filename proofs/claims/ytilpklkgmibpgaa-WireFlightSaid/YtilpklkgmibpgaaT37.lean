import Derived.Test.YtilpklkgmibpgaaT36
namespace Go.Proofs.Ytilpklkgmibpgaa
open Go.Ab
set_option maxHeartbeats 400000
set_option linter.unusedVariables false
set_option linter.unusedSimpArgs false
attribute [local simp] tt3 tt4 tt9 tt22 tt24 tt30 tt31 tt36 tt42 tt55 tt57 tt63 tt71 tt72 tt74 tt77 tt81
attribute [local simp] eqA sliceEq rowsA fillR appendA AV.lt mapElem lookupA mapPutA mapDelA mapClearA lenA sliceA indexA nth buildA fillA placesA TI.zv nilEq fieldOfA
attribute [local simp] List.filter_cons
set_option maxHeartbeats 4000000
set_option maxRecDepth 4000

theorem fr7a (c : Nat) : ([c + 6, c + 5, c + 4, c + 3, c + 2, c + 1, c].filter fun n => !([c + 2, c + 1, c] : List Nat).contains n) = [c + 6, c + 5, c + 4, c + 3] := by
  simp [List.filter_cons, show ¬ c + 6 = c by omega, show ¬ c + 5 = c by omega, show ¬ c + 4 = c by omega, show ¬ c + 3 = c by omega]
theorem fr7b (c : Nat) : ([c + 6, c + 5, c + 4, c + 3].filter fun n => !([c + 6, c + 3, c + 4, c + 5] : List Nat).contains n) = [] := by
  simp [List.filter_cons]
theorem xnew0 {σ : Nat → Option AO} {X O F A : Nat} (four : Four X O F A) : CallA Try.prog 26 [.nils] σ [X, O, F, A] fun r σ' => r = .ptr X 0 ∧ ∃ g', σ' = putX σ X O F A (newX []) g' :=
  CallA.wk (call_xnew26 (vs := []) (by simp -implicitDefEqProofs) four) (show WkL [.nils] [.sl []] from ⟨Wk.nils, trivial⟩)
theorem call_law11 {ns : List Int} {raw : Int} : CallA Try.prog 11 [.sl (ns.map intRow), .int .i64 raw] (fun _ => none) [] fun x _ => x = .bool true := by
  refine CallA.of ttok Try.func11 rfl (show 2 ≤ 129 by decide) fun c hF => ?_
  refine Tri.fresh (Tri.fresh (Tri.fresh (Tri.fresh (Tri.fresh (Tri.fresh (Tri.fresh ?_))))))
  refine Tri.seqX ttok rfl (by simp -implicitDefEqProofs <;> rfl) ?_
  refine Tri.seq ?_
  refine Tri.seqR ttok rfl ?_
  refine OpsA.call (lknown) rfl (by simp -implicitDefEqProofs <;> rfl) (by kernel_rfl) (by simp -implicitDefEqProofs) rfl ?_
  rintro x_ σ1 ⟨rfl, rfl⟩
  refine OpsA.all (by simp -implicitDefEqProofs <;> rfl) ?_
  refine Tri.cond (b := false) (by simp -implicitDefEqProofs) (fun h => by cases h) (fun _ => ?_)
  refine Tri.skip ?_
  refine Tri.seqR ttok rfl ?_
  refine OpsA.call (lnew0 (c := c)) rfl (by simp -implicitDefEqProofs <;> rfl) (by kernel_rfl) (by simp -implicitDefEqProofs) (fr7a c) ?_
  rintro x_ σ1 ⟨rfl, rfl⟩
  refine OpsA.call (xnew0 (X := c + 6) (O := c + 3) (F := c + 4) (A := c + 5) (four6 c)) rfl (by simp -implicitDefEqProofs <;> rfl) (by kernel_rfl) (by simp -implicitDefEqProofs) (fr7b c) ?_
  rintro x_ σ1 ⟨rfl, g0, rfl⟩
  refine OpsA.all (by simp -implicitDefEqProofs <;> rfl) ?_
  refine Tri.seq ?_
  refine Tri.seqX ttok rfl (by simp -implicitDefEqProofs <;> rfl) ?_
  refine Tri.cond (b := false) (by simp -implicitDefEqProofs) (fun h => by cases h) (fun _ => ?_)
  refine Tri.skip ?_
  refine Tri.seq ?_
  refine Tri.seqX ttok rfl (by simp -implicitDefEqProofs <;> rfl) ?_
  refine Tri.block ?_
  refine Tri.loopL (α := Nat × Wire × RW × Gens) (fun x_ => ({ t := tl [(0, .sl (ns.map intRow)), (1, .int .i64 raw), (5, .ptr (c + 2) 0), (6, .ptr (c + 6) 0), (7, .int .i64 (x_.1 : Int))], σ := both c none0 x_.2.1 x_.2.2.1 x_.2.2.2, c := c + 7, fr := [], m := 129, ds := [] } : AS)) (fun x_ => 30 - x_.1) (fun x_ => x_.1 ≤ 30 ∧ Bd [] x_.1 x_.2.1 x_.2.2.1) (0, wNew [], newX [], g0) ?_ ⟨Nat.zero_le _, Bd.new (by simp -implicitDefEqProofs)⟩ ?_
  · refine Le.gh ⟨?_, ?_, ?_, ?_, ?_, ?_⟩
    · exact LeT.cons (by simp -implicitDefEqProofs) (LeT.cons (by simp -implicitDefEqProofs) (LeT.cons (by simp -implicitDefEqProofs) (LeT.cons (by simp -implicitDefEqProofs) (LeT.cons (by simp -implicitDefEqProofs) (LeT.nil)))))
    · rfl
    · simp
    · simp
    · rfl
    · rfl
  · rintro ⟨i, w, x, g⟩ ⟨hi, h⟩
    replace hi : i ≤ 30 := hi
    replace h : Bd [] i w x := h
    rcases (show (i < ns.length ∧ i < 30) ∨ (i < ns.length ∧ ¬ i < 30) ∨ ¬ i < ns.length by omega) with ⟨hl, hl2⟩ | ⟨hl, hl2⟩ | hl
    · obtain ⟨n0, hn⟩ : ∃ v, ns[i]'(hl) = v := ⟨_, rfl⟩
      have hn' : ns[i]? = some n0 := by rw [List.getElem?_eq_getElem (hl), hn]
      have e7 : IntKind.i64.wrap ((i : Int) + 1) = ((i + 1 : Nat) : Int) := by rw [wrap_id (by omega) (by omega)]; omega
      have hl3 : (i : Int) < 30 := by omega
      refine Tri.seq ?_
      refine Tri.seqR ttok rfl ?_
      refine OpsA.allG (by simp -implicitDefEqProofs [hl, hl2, hl3, hn, hn', intRow] <;> rfl) ?_
      refine Tri.cond (b := true) (by simp -implicitDefEqProofs [hl, hl2, hl3, hn, hn', intRow]) (fun _ => ?_) (fun h => by cases h)
      refine Tri.skip ?_
      refine Tri.seq ?_
      refine Tri.block ?_
      refine Tri.seqR ttok rfl ?_
      refine OpsA.runX 6 (by simp -implicitDefEqProofs [hl, hl2, hl3, hn, hn', intRow] <;> rfl) ?_
      simp only [List.drop]
      refine OpsA.call (call_step27 (c0 := c) (n0 := n0) h (by omega)) rfl (by simp -implicitDefEqProofs [hl, hl2, hl3, hn, hn', intRow] <;> rfl) (by kernel_rfl) (by simp -implicitDefEqProofs) rfl ?_
      rintro x_ σ1 ⟨rfl, w2, x2, g2, rfl, h2⟩
      refine OpsA.all (by simp -implicitDefEqProofs [hl, hl2, hl3, hn, hn', intRow] <;> rfl) ?_
      refine Tri.cond (b := false) (by simp -implicitDefEqProofs [hl, hl2, hl3, hn, hn', intRow]) (fun h => by cases h) (fun _ => ?_)
      refine Tri.skip ?_
      try simp only [thenQ, blockQ]
      refine Tri.x ttok rfl (by simp -implicitDefEqProofs [hl, hl2, hl3, hn, hn', intRow] <;> rfl) ?_
      exact ⟨(i + 1, w2, x2, g2), ⟨by show i + 1 ≤ 30; omega, h2⟩, by show 30 - (i + 1) < 30 - i; omega, Le.gh ⟨LeT.cons (by simp -implicitDefEqProofs [e7]) (LeT.cons (by simp -implicitDefEqProofs [e7]) (LeT.cons (by simp -implicitDefEqProofs [e7]) (LeT.cons (by simp -implicitDefEqProofs [e7]) (LeT.cons (by simp -implicitDefEqProofs [e7]) (LeT.nil))))), by simp -implicitDefEqProofs, by simp -implicitDefEqProofs, by simp -implicitDefEqProofs, rfl, rfl⟩⟩
    · have hl3 : ¬ (i : Int) < 30 := by omega
      refine Tri.seq ?_
      refine Tri.seqR ttok rfl ?_
      refine OpsA.allG (by simp -implicitDefEqProofs [hl, hl2, hl3] <;> rfl) ?_
      refine Tri.cond (b := false) (by simp -implicitDefEqProofs [hl, hl2, hl3]) (fun h => by cases h) (fun _ => ?_)
      have hw := h.wok (by omega)
      obtain ⟨σ2, hσ2⟩ : ∃ σ2, putX none0 (c + 6) (c + 3) (c + 4) (c + 5) x g = σ2 := ⟨_, rfl⟩
      simp only [both_eq, hσ2]
      have hσl : ∀ n, n < c → σ2 n = none := fun n hn => by rw [← hσ2, putX_other (by omega) (by omega) (by omega) (by omega)]; rfl
      have hσh : ∀ n, c + 7 ≤ n → σ2 n = none := fun n hn => by rw [← hσ2, putX_other (by omega) (by omega) (by omega) (by omega)]; rfl
      obtain ⟨fl, hfl⟩ : ∃ fl, w.flight = fl := ⟨_, rfl⟩
      refine Tri.exit ?_
      try simp only [thenQ, blockQ, if_true]
      refine Tri.seqR ttok rfl ?_
      refine OpsA.runX 1 (by simp -implicitDefEqProofs [hl, hl2, hl3] <;> rfl) ?_
      simp only [List.drop]
      refine OpsA.call (lflight hw) rfl (by simp -implicitDefEqProofs [hl, hl2, hl3] <;> rfl) (by kernel_rfl) (by simp -implicitDefEqProofs) rfl ?_
      rintro x σ' ⟨rfl, rfl⟩
      rw [hfl]
      refine OpsA.all (by simp -implicitDefEqProofs [hl, hl2, hl3] <;> rfl) ?_
      rcases fl with _ | ⟨m0, fl0⟩
      · refine Tri.seq ?_
        refine Tri.seqX ttok rfl (by simp -implicitDefEqProofs [hl, hl2, hl3] <;> rfl) ?_
        refine Tri.cond (b := true) (by simp -implicitDefEqProofs [hl, hl2, hl3]) (fun _ => ?_) (fun h => by cases h)
        refine Tri.seqR ttok rfl ?_
        refine OpsA.runG 1 (by simp -implicitDefEqProofs [hl, hl2, hl3] <;> rfl) ?_
        simp only [List.drop]
        refine OpsA.call (ldrop (i := 0) hw) rfl (by simp -implicitDefEqProofs [hl, hl2, hl3] <;> rfl) (by kernel_rfl) (by simp -implicitDefEqProofs) rfl ?_
        rintro x σ' ⟨rfl, rfl⟩
        rw [show decide ((0 : Int) ≤ 0 ∧ (0 : Int) < w.flight.length) = false by rw [hfl]; rfl, show dropW w 0 = w by simp -implicitDefEqProofs [dropW, hfl]]
        refine OpsA.runG 3 (by simp -implicitDefEqProofs [hl, hl2, hl3] <;> rfl) ?_
        simp only [List.drop]
        refine OpsA.guard rfl rfl (by simp -implicitDefEqProofs [hl, hl2, hl3] <;> rfl) (fun _ => ?_) (fun h => absurd rfl h)
        refine OpsA.call (ltwice (i := 0) hw) rfl (by simp -implicitDefEqProofs [hl, hl2, hl3] <;> rfl) (by kernel_rfl) (by simp -implicitDefEqProofs) rfl ?_
        rintro x σ' ⟨rfl, rfl⟩
        rw [show decide ((0 : Int) ≤ 0 ∧ (0 : Int) < w.flight.length) = false by rw [hfl]; rfl, show twiceW w 0 = w by simp -implicitDefEqProofs [twiceW, hfl]]
        refine OpsA.allG (by simp -implicitDefEqProofs [hl, hl2, hl3] <;> rfl) ?_
        refine Tri.ret ?_
        exact fnPost.tmp (.inr rfl) rfl (by rfl) (by simp -implicitDefEqProofs <;> rfl) (by exact True.intro) (Stays.law fun n hn => by simp only [σ_put, σ_with]; rw [putL_lt hn]; exact hσl n hn) rfl
      · obtain ⟨fl, hfe⟩ : ∃ fl, m0 :: fl0 = fl := ⟨_, rfl⟩
        simp only [hfe] at hfl ⊢
        have hne : fl ≠ [] := by rw [← hfe]; simp
        have hpos : 0 < fl.length := by rw [← hfe]; simp
        have hp0 : ¬ (fl.length : Int) = 0 := by omega
        have hfn : fl.length ≤ 6000 := by rw [← hfl, ← h.r.f]; have := h.fl; omega
        obtain ⟨k, hk, hkl⟩ : ∃ k : Nat, within raw (fl.length : Int) = k ∧ k < fl.length := by
          have := within_bounds raw (n := (fl.length : Int)) (by omega)
          exact ⟨(within raw (fl.length : Int)).toNat, by omega, by omega⟩
        obtain ⟨m, hm⟩ : ∃ v, fl[k]'(hkl) = v := ⟨_, rfl⟩
        have hm' : fl[k]? = some m := by rw [List.getElem?_eq_getElem (hkl), hm]
        have htw : twiceW w k = { w with flight := fl ++ [m] } := by simp -implicitDefEqProofs [twiceW, hfl, hkl, hm]
        obtain ⟨fl2, hfe2⟩ : ∃ fl2, fl ++ [m] = fl2 := ⟨_, rfl⟩
        rw [hfe2] at htw
        have h2len : fl2.length = fl.length + 1 := by rw [← hfe2]; simp
        have h2k : k < fl2.length := by omega
        have h2n : fl.length < fl2.length := by omega
        have h2g : fl2[fl.length]'h2n = m := by subst hfe2; simp
        have h2g' : fl2[fl.length]? = some m := by rw [List.getElem?_eq_getElem h2n, h2g]
        obtain ⟨w2, hw2e⟩ : ∃ w2, ({ w with flight := fl2 } : Wire) = w2 := ⟨_, rfl⟩
        rw [hw2e] at htw
        have hw2 : WOk w2 := by rw [← hw2e]; exact ⟨hw.vs, by show fl2.length < 900000; omega, hw.ap, hw.ck, hw.op, hw.nd, hw.wf⟩
        have hfl2 : w2.flight = fl2 := by rw [← hw2e]
        obtain ⟨fl3, hfe3⟩ : ∃ fl3, fl2.eraseIdx k = fl3 := ⟨_, rfl⟩
        have h3len : fl3.length = fl.length := by rw [← hfe3, List.length_eraseIdx, if_pos h2k]; omega
        have hdw : dropW w2 k = { w2 with flight := fl3 } := by rw [dropW, if_pos (by rw [hfl2]; omega), hfl2, ← hfe3]; rfl
        obtain ⟨w3, hw3e⟩ : ∃ w3, ({ w2 with flight := fl3 } : Wire) = w3 := ⟨_, rfl⟩
        rw [hw3e] at hdw
        have hw3 : WOk w3 := by rw [← hw3e]; exact ⟨hw2.vs, by show fl3.length < 900000; omega, hw2.ap, hw2.ck, hw2.op, hw2.nd, hw2.wf⟩
        have hfl3 : w3.flight = fl3 := by rw [← hw3e]
        have hf3a : ∀ i, i < k → fl3[i]? = fl[i]? := fun i hi => by rw [← hfe3, List.getElem?_eraseIdx, if_pos hi, ← hfe2, List.getElem?_append_left (by omega)]
        have hf3b : ∀ i, k ≤ i → i + 1 < fl.length → fl3[i]? = fl[i + 1]? := fun i hi hi2 => by rw [← hfe3, List.getElem?_eraseIdx, if_neg (by omega), ← hfe2, List.getElem?_append_left (by omega)]
        have hf3c : ∀ i, i + 1 = fl.length → fl3[i]? = some m := fun i hi => by rw [← hfe3, List.getElem?_eraseIdx, if_neg (by omega), hi, h2g']
        have hlt1 : (fl.length : Int) < (fl.length : Int) + 1 := by omega
        have e1 : IntKind.i64.wrap ((fl.length : Int) + 1) = (fl.length : Int) + 1 := wrap_id (by omega) (by omega)
        refine Tri.seq ?_
        refine Tri.seqX ttok rfl (by simp -implicitDefEqProofs [hne, hp0, hkl, hm, hm', h2len, h2k, h2n, h2g, h2g', h3len, e1, hlt1, msgRow, eqFs] <;> rfl) ?_
        refine Tri.cond (b := false) (by simp -implicitDefEqProofs [hne, hp0, hkl, hm, hm', h2len, h2k, h2n, h2g, h2g', h3len, e1, hlt1, msgRow, eqFs]) (fun h => by cases h) (fun _ => ?_)
        refine Tri.skip ?_
        refine Tri.seqR ttok rfl ?_
        refine OpsA.runX 3 (by simp -implicitDefEqProofs [hne, hp0, hkl, hm, hm', h2len, h2k, h2n, h2g, h2g', h3len, e1, hlt1, msgRow, eqFs] <;> rfl) ?_
        simp only [List.drop]
        refine OpsA.call (call_withinB (a := raw) (n := (fl.length : Int)) (by omega) (by omega)) rfl (by simp -implicitDefEqProofs [hne, hp0, hkl, hm, hm', h2len, h2k, h2n, h2g, h2g', h3len, e1, hlt1, msgRow, eqFs] <;> rfl) (by kernel_rfl) (by simp -implicitDefEqProofs) rfl ?_
        rintro x σ' ⟨rfl, rfl⟩
        rw [hk]
        refine OpsA.all (by simp -implicitDefEqProofs [hne, hp0, hkl, hm, hm', h2len, h2k, h2n, h2g, h2g', h3len, e1, hlt1, msgRow, eqFs] <;> rfl) ?_
        refine Tri.seq ?_
        refine Tri.seqR ttok rfl ?_
        refine OpsA.runX 2 (by simp -implicitDefEqProofs [hne, hp0, hkl, hm, hm', h2len, h2k, h2n, h2g, h2g', h3len, e1, hlt1, msgRow, eqFs] <;> rfl) ?_
        simp only [List.drop]
        refine OpsA.call (ltwice (i := (k : Int)) hw) rfl (by simp -implicitDefEqProofs [hne, hp0, hkl, hm, hm', h2len, h2k, h2n, h2g, h2g', h3len, e1, hlt1, msgRow, eqFs] <;> rfl) (by kernel_rfl) (by simp -implicitDefEqProofs) rfl ?_
        rintro x σ' ⟨rfl, rfl⟩
        rw [show decide (0 ≤ (k : Int) ∧ (k : Int) < w.flight.length) = true by rw [hfl]; simp; omega, htw]
        refine OpsA.all (by simp -implicitDefEqProofs [hne, hp0, hkl, hm, hm', h2len, h2k, h2n, h2g, h2g', h3len, e1, hlt1, msgRow, eqFs] <;> rfl) ?_
        refine Tri.cond (b := false) (by simp -implicitDefEqProofs [hne, hp0, hkl, hm, hm', h2len, h2k, h2n, h2g, h2g', h3len, e1, hlt1, msgRow, eqFs]) (fun h => by cases h) (fun _ => ?_)
        refine Tri.skip ?_
        refine Tri.seqR ttok rfl ?_
        refine OpsA.runX 1 (by simp -implicitDefEqProofs [hne, hp0, hkl, hm, hm', h2len, h2k, h2n, h2g, h2g', h3len, e1, hlt1, msgRow, eqFs] <;> rfl) ?_
        simp only [List.drop]
        refine OpsA.call (lflight hw2) rfl (by simp -implicitDefEqProofs [hne, hp0, hkl, hm, hm', h2len, h2k, h2n, h2g, h2g', h3len, e1, hlt1, msgRow, eqFs] <;> rfl) (by kernel_rfl) (by simp -implicitDefEqProofs) rfl ?_
        rintro x σ' ⟨rfl, rfl⟩
        rw [hfl2]
        refine OpsA.all (by simp -implicitDefEqProofs [hne, hp0, hkl, hm, hm', h2len, h2k, h2n, h2g, h2g', h3len, e1, hlt1, msgRow, eqFs] <;> rfl) ?_
        refine Tri.seq ?_
        refine Tri.seqD ttok mix [0, 2, 1, 3, 4, 5, 6, 7, 8, 12, 13, 9, 10, 11, 14, 15, 16, 17, 18, 19, 20, 21, 22, 23] (by kernel_rfl) rfl ?_
        simp only [List.filterMap, List.map, List.getElem?_cons_succ, List.getElem?_cons_zero]
        refine OpsA.runG 21 (by simp -implicitDefEqProofs [hne, hp0, hkl, hm, hm', h2len, h2k, h2n, h2g, h2g', h3len, e1, hlt1, msgRow, eqFs] <;> rfl) ?_
        simp only [List.drop]
        refine OpsA.guard rfl rfl (by simp -implicitDefEqProofs [hne, hp0, hkl, hm, hm', h2len, h2k, h2n, h2g, h2g', h3len, e1, hlt1, msgRow, eqFs] <;> rfl) (fun _ => ?_) (fun h => absurd rfl h)
        refine OpsA.call (ldrop (i := (k : Int)) hw2) rfl (by simp -implicitDefEqProofs [hne, hp0, hkl, hm, hm', h2len, h2k, h2n, h2g, h2g', h3len, e1, hlt1, msgRow, eqFs] <;> rfl) (by kernel_rfl) (by simp -implicitDefEqProofs) rfl ?_
        rintro x σ' ⟨rfl, rfl⟩
        rw [show decide (0 ≤ (k : Int) ∧ (k : Int) < w2.flight.length) = true by rw [hfl2]; simp; omega, hdw]
        refine OpsA.allG (by simp -implicitDefEqProofs [hne, hp0, hkl, hm, hm', h2len, h2k, h2n, h2g, h2g', h3len, e1, hlt1, msgRow, eqFs] <;> rfl) ?_
        refine Tri.cond (b := false) (by simp -implicitDefEqProofs [hne, hp0, hkl, hm, hm', h2len, h2k, h2n, h2g, h2g', h3len, e1, hlt1, msgRow, eqFs]) (fun h => by cases h) (fun _ => ?_)
        refine Tri.skip ?_
        refine Tri.seqR ttok rfl ?_
        refine OpsA.runX 1 (by simp -implicitDefEqProofs [hne, hp0, hkl, hm, hm', h2len, h2k, h2n, h2g, h2g', h3len, e1, hlt1, msgRow, eqFs] <;> rfl) ?_
        simp only [List.drop]
        refine OpsA.call (lflight hw3) rfl (by simp -implicitDefEqProofs [hne, hp0, hkl, hm, hm', h2len, h2k, h2n, h2g, h2g', h3len, e1, hlt1, msgRow, eqFs] <;> rfl) (by kernel_rfl) (by simp -implicitDefEqProofs) rfl ?_
        rintro x σ' ⟨rfl, rfl⟩
        rw [hfl3]
        refine OpsA.all (by simp -implicitDefEqProofs [hne, hp0, hkl, hm, hm', h2len, h2k, h2n, h2g, h2g', h3len, e1, hlt1, msgRow, eqFs] <;> rfl) ?_
        refine Tri.seq ?_
        refine Tri.seqX ttok rfl (by simp -implicitDefEqProofs [hne, hp0, hkl, hm, hm', h2len, h2k, h2n, h2g, h2g', h3len, e1, hlt1, msgRow, eqFs] <;> rfl) ?_
        refine Tri.cond (b := false) (by simp -implicitDefEqProofs [hne, hp0, hkl, hm, hm', h2len, h2k, h2n, h2g, h2g', h3len, e1, hlt1, msgRow, eqFs]) (fun h => by cases h) (fun _ => ?_)
        refine Tri.skip ?_
        refine Tri.seq ?_
        refine Tri.seqX ttok rfl (by simp -implicitDefEqProofs [hne, hp0, hkl, hm, hm', h2len, h2k, h2n, h2g, h2g', h3len, e1, hlt1, msgRow, eqFs] <;> rfl) ?_
        refine Tri.block ?_
        refine Tri.loopL (α := Nat × Nat) (fun x_ => ({ t := tl [(8, .sl (fl.map msgRow)), (9, .int .i64 (k : Int)), (11, .sl (fl3.map msgRow)), (12, .int .i64 (x_.1 : Int))], σ := putL c σ2 w3, c := x_.2, fr := [], m := 129, ds := [] } : AS)) (fun x_ => fl.length - x_.1) (fun x_ => x_.1 ≤ fl.length ∧ c + 7 ≤ x_.2) (0, c + 7) ?_ ⟨Nat.zero_le _, Nat.le_refl _⟩ ?_
        · refine Le.gh ⟨?_, ?_, ?_, ?_, ?_, ?_⟩
          · exact LeT.cons (by simp -implicitDefEqProofs) (LeT.cons (by simp -implicitDefEqProofs) (LeT.cons (by simp -implicitDefEqProofs) (LeT.cons (by simp -implicitDefEqProofs) (LeT.nil))))
          · simp
          · simp
          · simp
          · rfl
          · rfl
        · rintro ⟨i, cc⟩ ⟨hi, hcc⟩
          replace hi : i ≤ fl.length := hi
          replace hcc : c + 7 ≤ cc := hcc
          have ucc := fun (σ' : Nat → Option AO) (w' : Wire) (y : Option AO) => putL_upd (c := c) (σ := σ') (w := w') (x := y) (show c + 3 ≤ cc by omega)
          have atcc := fun (σ' : Nat → Option AO) (w' : Wire) => putL_at (c := c) (σ := σ') (w := w') (show c + 3 ≤ cc by omega)
          have hσc : upd σ2 cc none = σ2 := upd_self _ _ (hσh cc hcc)
          refine Tri.fresh ?_
          by_cases hlt : i < fl.length
          · have e2 : IntKind.i64.wrap ((i : Int) + 1) = (i : Int) + 1 := wrap_id (by omega) (by omega)
            have e7 : IntKind.i64.wrap ((i : Int) + 1) = ((i + 1 : Nat) : Int) := by rw [e2]; omega
            have e3 : IntKind.i64.wrap ((fl.length : Int) - 1) = (fl.length : Int) - 1 := wrap_id (by omega) (by omega)
            have h3l : i < fl3.length := by omega
            have hjl : min (i + 1) (fl.length - 1) < fl.length := by omega
            obtain ⟨j, hj⟩ : ∃ j, min (i + 1) (fl.length - 1) = j := ⟨_, rfl⟩
            rw [hj] at hjl
            have emin : (if (fl.length : Int) - 1 < (i : Int) + 1 then (fl.length : Int) - 1 else (i : Int) + 1) = (j : Int) := by split <;> omega
            have emin2 : min ((i : Int) + 1) ((fl.length : Int) - 1) = (j : Int) := by omega
            obtain ⟨p, hp⟩ : ∃ v, fl[i]'(hlt) = v := ⟨_, rfl⟩
            have hp' : fl[i]? = some p := by rw [List.getElem?_eq_getElem (hlt), hp]
            obtain ⟨pj, hpj⟩ : ∃ v, fl[j]'(hjl) = v := ⟨_, rfl⟩
            have hpj' : fl[j]? = some pj := by rw [List.getElem?_eq_getElem (hjl), hpj]
            obtain ⟨r, hr⟩ : ∃ v, fl3[i]'(h3l) = v := ⟨_, rfl⟩
            have hr' : fl3[i]? = some r := by rw [List.getElem?_eq_getElem (h3l), hr]
            refine Tri.seq ?_
            refine Tri.seqX ttok rfl (by simp -implicitDefEqProofs [hlt, hr, hr', h3l, hp, hp', hpj, hpj', hm, hm', hkl, hjl, h3len, e2, e3, emin, emin2, msgRow, ucc, atcc, eqFs] <;> rfl) ?_
            refine Tri.cond (b := true) (by simp -implicitDefEqProofs [hlt, hr, hr', h3l, hp, hp', hpj, hpj', hm, hm', hkl, hjl, h3len, e2, e3, emin, emin2, msgRow, ucc, atcc, eqFs]) (fun _ => ?_) (fun h => by cases h)
            refine Tri.skip ?_
            refine Tri.seq ?_
            refine Tri.block ?_
            refine Tri.seqR ttok rfl ?_
            refine OpsA.runX 9 (by simp -implicitDefEqProofs [hlt, hr, hr', h3l, hp, hp', hpj, hpj', hm, hm', hkl, hjl, h3len, e2, e3, emin, emin2, msgRow, ucc, atcc, eqFs] <;> rfl) ?_
            simp only [List.drop]
            refine OpsA.new (cc) rfl (by simp -implicitDefEqProofs [hlt, hr, hr', h3l, hp, hp', hpj, hpj', hm, hm', hkl, hjl, h3len, e2, e3, emin, emin2, msgRow, ucc, atcc, eqFs] <;> rfl) (by simp -implicitDefEqProofs) (by simp -implicitDefEqProofs <;> rfl) ?_
            refine OpsA.all (by simp -implicitDefEqProofs [hlt, hr, hr', h3l, hp, hp', hpj, hpj', hm, hm', hkl, hjl, h3len, e2, e3, emin, emin2, msgRow, ucc, atcc, eqFs] <;> rfl) ?_
            rcases (show (i < k ∧ i + 1 ≠ fl.length) ∨ (¬ i < k ∧ i + 1 ≠ fl.length) ∨ (¬ i < k ∧ i + 1 = fl.length) by omega) with ⟨hik, hln⟩ | ⟨hik, hln⟩ | ⟨hik, hln⟩
            · have hln2 : ¬ (i : Int) = (fl.length : Int) - 1 := by omega
              have hr4 : r = p := by
                have := hf3a i hik; rw [hr', hp'] at this; exact Option.some.inj this
              refine Tri.seq ?_
              refine Tri.seqX ttok rfl (by simp -implicitDefEqProofs [hlt, hr, hr', h3l, hp, hp', hpj, hpj', hm, hm', hkl, hjl, h3len, e2, e3, emin, emin2, msgRow, ucc, atcc, eqFs, hik, hr4, hln2] <;> rfl) ?_
              refine Tri.cond (b := true) (by simp -implicitDefEqProofs [hlt, hr, hr', h3l, hp, hp', hpj, hpj', hm, hm', hkl, hjl, h3len, e2, e3, emin, emin2, msgRow, ucc, atcc, eqFs, hik, hr4, hln2]) (fun _ => ?_) (fun h => by cases h)
              refine Tri.x ttok rfl (by simp -implicitDefEqProofs [hlt, hr, hr', h3l, hp, hp', hpj, hpj', hm, hm', hkl, hjl, h3len, e2, e3, emin, emin2, msgRow, ucc, atcc, eqFs, hik, hr4, hln2] <;> rfl) ?_
              refine Tri.seq ?_
              refine Tri.seqX ttok rfl (by simp -implicitDefEqProofs [hlt, hr, hr', h3l, hp, hp', hpj, hpj', hm, hm', hkl, hjl, h3len, e2, e3, emin, emin2, msgRow, ucc, atcc, eqFs, hik, hr4, hln2] <;> rfl) ?_
              refine Tri.cond (b := false) (by simp -implicitDefEqProofs [hlt, hr, hr', h3l, hp, hp', hpj, hpj', hm, hm', hkl, hjl, h3len, e2, e3, emin, emin2, msgRow, ucc, atcc, eqFs, hik, hr4, hln2]) (fun h => by cases h) (fun _ => ?_)
              refine Tri.skip ?_
              refine Tri.seqD ttok mix [0, 1, 2, 3, 4, 5] (by kernel_rfl) rfl ?_
              simp only [List.filterMap, List.map, List.getElem?_cons_succ, List.getElem?_cons_zero]
              refine OpsA.all (by simp -implicitDefEqProofs [hlt, hr, hr', h3l, hp, hp', hpj, hpj', hm, hm', hkl, hjl, h3len, e2, e3, emin, emin2, msgRow, ucc, atcc, eqFs, hik, hr4, hln2] <;> rfl) ?_
              refine Tri.cond (b := false) (by simp -implicitDefEqProofs [hlt, hr, hr', h3l, hp, hp', hpj, hpj', hm, hm', hkl, hjl, h3len, e2, e3, emin, emin2, msgRow, ucc, atcc, eqFs, hik, hr4, hln2]) (fun h => by cases h) (fun _ => ?_)
              refine Tri.skip ?_
              try simp only [thenQ, blockQ]
              refine Tri.x ttok rfl (by simp -implicitDefEqProofs [hlt, hr, hr', h3l, hp, hp', hpj, hpj', hm, hm', hkl, hjl, h3len, e2, e3, emin, emin2, msgRow, ucc, atcc, eqFs, hik, hr4, hln2] <;> rfl) ?_
              exact ⟨(i + 1, cc + 1), ⟨by dsimp only; omega, by dsimp only; omega⟩, by dsimp only; omega, Gh.trans (Gh.kill cc) (Le.gh ⟨LeT.cons (by simp -implicitDefEqProofs [e7]) (LeT.cons (by simp -implicitDefEqProofs [e7]) (LeT.cons (by simp -implicitDefEqProofs [e7]) (LeT.cons (by simp -implicitDefEqProofs [e7]) (LeT.nil)))), by simp -implicitDefEqProofs [ucc, hσc], by simp -implicitDefEqProofs, by simp -implicitDefEqProofs, rfl, rfl⟩)⟩
            · have hln2 : ¬ (i : Int) = (fl.length : Int) - 1 := by omega
              have hr4 : r = pj := by
                have := hf3b i (by omega) (by omega); rw [hr', show i + 1 = j by omega, hpj'] at this; exact Option.some.inj this
              refine Tri.seq ?_
              refine Tri.seqX ttok rfl (by simp -implicitDefEqProofs [hlt, hr, hr', h3l, hp, hp', hpj, hpj', hm, hm', hkl, hjl, h3len, e2, e3, emin, emin2, msgRow, ucc, atcc, eqFs, hik, hr4, hln2] <;> rfl) ?_
              refine Tri.cond (b := false) (by simp -implicitDefEqProofs [hlt, hr, hr', h3l, hp, hp', hpj, hpj', hm, hm', hkl, hjl, h3len, e2, e3, emin, emin2, msgRow, ucc, atcc, eqFs, hik, hr4, hln2]) (fun h => by cases h) (fun _ => ?_)
              refine Tri.skip ?_
              refine Tri.seq ?_
              refine Tri.seqX ttok rfl (by simp -implicitDefEqProofs [hlt, hr, hr', h3l, hp, hp', hpj, hpj', hm, hm', hkl, hjl, h3len, e2, e3, emin, emin2, msgRow, ucc, atcc, eqFs, hik, hr4, hln2] <;> rfl) ?_
              refine Tri.cond (b := false) (by simp -implicitDefEqProofs [hlt, hr, hr', h3l, hp, hp', hpj, hpj', hm, hm', hkl, hjl, h3len, e2, e3, emin, emin2, msgRow, ucc, atcc, eqFs, hik, hr4, hln2]) (fun h => by cases h) (fun _ => ?_)
              refine Tri.skip ?_
              refine Tri.seqD ttok mix [0, 1, 2, 3, 4, 5] (by kernel_rfl) rfl ?_
              simp only [List.filterMap, List.map, List.getElem?_cons_succ, List.getElem?_cons_zero]
              refine OpsA.all (by simp -implicitDefEqProofs [hlt, hr, hr', h3l, hp, hp', hpj, hpj', hm, hm', hkl, hjl, h3len, e2, e3, emin, emin2, msgRow, ucc, atcc, eqFs, hik, hr4, hln2] <;> rfl) ?_
              refine Tri.cond (b := false) (by simp -implicitDefEqProofs [hlt, hr, hr', h3l, hp, hp', hpj, hpj', hm, hm', hkl, hjl, h3len, e2, e3, emin, emin2, msgRow, ucc, atcc, eqFs, hik, hr4, hln2]) (fun h => by cases h) (fun _ => ?_)
              refine Tri.skip ?_
              try simp only [thenQ, blockQ]
              refine Tri.x ttok rfl (by simp -implicitDefEqProofs [hlt, hr, hr', h3l, hp, hp', hpj, hpj', hm, hm', hkl, hjl, h3len, e2, e3, emin, emin2, msgRow, ucc, atcc, eqFs, hik, hr4, hln2] <;> rfl) ?_
              exact ⟨(i + 1, cc + 1), ⟨by dsimp only; omega, by dsimp only; omega⟩, by dsimp only; omega, Gh.trans (Gh.kill cc) (Le.gh ⟨LeT.cons (by simp -implicitDefEqProofs [e7]) (LeT.cons (by simp -implicitDefEqProofs [e7]) (LeT.cons (by simp -implicitDefEqProofs [e7]) (LeT.cons (by simp -implicitDefEqProofs [e7]) (LeT.nil)))), by simp -implicitDefEqProofs [ucc, hσc], by simp -implicitDefEqProofs, by simp -implicitDefEqProofs, rfl, rfl⟩)⟩
            · have e8 : IntKind.i64.wrap (i : Int) = (i : Int) := wrap_id (by omega) (by omega)
              have hln2 : (fl.length : Int) - 1 = (i : Int) := by omega
              have hlt3 : (i : Int) < (i : Int) + 1 := by omega
              have hr4 : r = m := by
                have := hf3c i (by omega); rw [hr'] at this; exact Option.some.inj this
              refine Tri.seq ?_
              refine Tri.seqX ttok rfl (by simp -implicitDefEqProofs [hlt, hr, hr', h3l, hp, hp', hpj, hpj', hm, hm', hkl, hjl, h3len, e2, e3, emin, emin2, msgRow, ucc, atcc, eqFs, hik, hr4, hln2, hlt3, e8] <;> rfl) ?_
              refine Tri.cond (b := false) (by simp -implicitDefEqProofs [hlt, hr, hr', h3l, hp, hp', hpj, hpj', hm, hm', hkl, hjl, h3len, e2, e3, emin, emin2, msgRow, ucc, atcc, eqFs, hik, hr4, hln2, hlt3, e8]) (fun h => by cases h) (fun _ => ?_)
              refine Tri.skip ?_
              refine Tri.seq ?_
              refine Tri.seqX ttok rfl (by simp -implicitDefEqProofs [hlt, hr, hr', h3l, hp, hp', hpj, hpj', hm, hm', hkl, hjl, h3len, e2, e3, emin, emin2, msgRow, ucc, atcc, eqFs, hik, hr4, hln2, hlt3, e8] <;> rfl) ?_
              refine Tri.cond (b := true) (by simp -implicitDefEqProofs [hlt, hr, hr', h3l, hp, hp', hpj, hpj', hm, hm', hkl, hjl, h3len, e2, e3, emin, emin2, msgRow, ucc, atcc, eqFs, hik, hr4, hln2, hlt3, e8]) (fun _ => ?_) (fun h => by cases h)
              refine Tri.x ttok rfl (by simp -implicitDefEqProofs [hlt, hr, hr', h3l, hp, hp', hpj, hpj', hm, hm', hkl, hjl, h3len, e2, e3, emin, emin2, msgRow, ucc, atcc, eqFs, hik, hr4, hln2, hlt3, e8] <;> rfl) ?_
              refine Tri.seqD ttok mix [0, 1, 2, 3, 4, 5] (by kernel_rfl) rfl ?_
              simp only [List.filterMap, List.map, List.getElem?_cons_succ, List.getElem?_cons_zero]
              refine OpsA.all (by simp -implicitDefEqProofs [hlt, hr, hr', h3l, hp, hp', hpj, hpj', hm, hm', hkl, hjl, h3len, e2, e3, emin, emin2, msgRow, ucc, atcc, eqFs, hik, hr4, hln2, hlt3, e8] <;> rfl) ?_
              refine Tri.cond (b := false) (by simp -implicitDefEqProofs [hlt, hr, hr', h3l, hp, hp', hpj, hpj', hm, hm', hkl, hjl, h3len, e2, e3, emin, emin2, msgRow, ucc, atcc, eqFs, hik, hr4, hln2, hlt3, e8]) (fun h => by cases h) (fun _ => ?_)
              refine Tri.skip ?_
              try simp only [thenQ, blockQ]
              refine Tri.x ttok rfl (by simp -implicitDefEqProofs [hlt, hr, hr', h3l, hp, hp', hpj, hpj', hm, hm', hkl, hjl, h3len, e2, e3, emin, emin2, msgRow, ucc, atcc, eqFs, hik, hr4, hln2, hlt3, e8] <;> rfl) ?_
              exact ⟨(i + 1, cc + 1), ⟨by dsimp only; omega, by dsimp only; omega⟩, by dsimp only; omega, Gh.trans (Gh.kill cc) (Le.gh ⟨LeT.cons (by simp -implicitDefEqProofs [e7]) (LeT.cons (by simp -implicitDefEqProofs [e7]) (LeT.cons (by simp -implicitDefEqProofs [e7]) (LeT.cons (by simp -implicitDefEqProofs [e7]) (LeT.nil)))), by simp -implicitDefEqProofs [ucc, hσc], by simp -implicitDefEqProofs, by simp -implicitDefEqProofs, rfl, rfl⟩)⟩
          · have hi3 : ¬ i < fl3.length := by omega
            refine Tri.seq ?_
            refine Tri.seqX ttok rfl (by simp -implicitDefEqProofs [hlt, hi3, h3len] <;> rfl) ?_
            refine Tri.cond (b := false) (by simp -implicitDefEqProofs [hlt, hi3, h3len]) (fun h => by cases h) (fun _ => ?_)
            refine Tri.exit ?_
            try simp only [thenQ, blockQ, if_true]
            refine Tri.seqX ttok rfl (by simp -implicitDefEqProofs [hlt, hi3, h3len] <;> rfl) ?_
            refine Tri.ret ?_
            exact fnPost.tmp (.inr rfl) rfl (by rfl) (by simp -implicitDefEqProofs <;> rfl) (by exact True.intro) (Stays.law fun n hn => by show putL c σ2 w3 n = none; rw [putL_lt hn]; exact hσl n hn) rfl
    · refine Tri.seq ?_
      refine Tri.seqR ttok rfl ?_
      refine OpsA.allG (by simp -implicitDefEqProofs [hl] <;> rfl) ?_
      refine Tri.cond (b := false) (by simp -implicitDefEqProofs [hl]) (fun h => by cases h) (fun _ => ?_)
      have hw := h.wok (by omega)
      obtain ⟨σ2, hσ2⟩ : ∃ σ2, putX none0 (c + 6) (c + 3) (c + 4) (c + 5) x g = σ2 := ⟨_, rfl⟩
      simp only [both_eq, hσ2]
      have hσl : ∀ n, n < c → σ2 n = none := fun n hn => by rw [← hσ2, putX_other (by omega) (by omega) (by omega) (by omega)]; rfl
      have hσh : ∀ n, c + 7 ≤ n → σ2 n = none := fun n hn => by rw [← hσ2, putX_other (by omega) (by omega) (by omega) (by omega)]; rfl
      obtain ⟨fl, hfl⟩ : ∃ fl, w.flight = fl := ⟨_, rfl⟩
      refine Tri.exit ?_
      try simp only [thenQ, blockQ, if_true]
      refine Tri.seqR ttok rfl ?_
      refine OpsA.runX 1 (by simp -implicitDefEqProofs [hl] <;> rfl) ?_
      simp only [List.drop]
      refine OpsA.call (lflight hw) rfl (by simp -implicitDefEqProofs [hl] <;> rfl) (by kernel_rfl) (by simp -implicitDefEqProofs) rfl ?_
      rintro x σ' ⟨rfl, rfl⟩
      rw [hfl]
      refine OpsA.all (by simp -implicitDefEqProofs [hl] <;> rfl) ?_
      rcases fl with _ | ⟨m0, fl0⟩
      · refine Tri.seq ?_
        refine Tri.seqX ttok rfl (by simp -implicitDefEqProofs [hl] <;> rfl) ?_
        refine Tri.cond (b := true) (by simp -implicitDefEqProofs [hl]) (fun _ => ?_) (fun h => by cases h)
        refine Tri.seqR ttok rfl ?_
        refine OpsA.runG 1 (by simp -implicitDefEqProofs [hl] <;> rfl) ?_
        simp only [List.drop]
        refine OpsA.call (ldrop (i := 0) hw) rfl (by simp -implicitDefEqProofs [hl] <;> rfl) (by kernel_rfl) (by simp -implicitDefEqProofs) rfl ?_
        rintro x σ' ⟨rfl, rfl⟩
        rw [show decide ((0 : Int) ≤ 0 ∧ (0 : Int) < w.flight.length) = false by rw [hfl]; rfl, show dropW w 0 = w by simp -implicitDefEqProofs [dropW, hfl]]
        refine OpsA.runG 3 (by simp -implicitDefEqProofs [hl] <;> rfl) ?_
        simp only [List.drop]
        refine OpsA.guard rfl rfl (by simp -implicitDefEqProofs [hl] <;> rfl) (fun _ => ?_) (fun h => absurd rfl h)
        refine OpsA.call (ltwice (i := 0) hw) rfl (by simp -implicitDefEqProofs [hl] <;> rfl) (by kernel_rfl) (by simp -implicitDefEqProofs) rfl ?_
        rintro x σ' ⟨rfl, rfl⟩
        rw [show decide ((0 : Int) ≤ 0 ∧ (0 : Int) < w.flight.length) = false by rw [hfl]; rfl, show twiceW w 0 = w by simp -implicitDefEqProofs [twiceW, hfl]]
        refine OpsA.allG (by simp -implicitDefEqProofs [hl] <;> rfl) ?_
        refine Tri.ret ?_
        exact fnPost.tmp (.inr rfl) rfl (by rfl) (by simp -implicitDefEqProofs <;> rfl) (by exact True.intro) (Stays.law fun n hn => by simp only [σ_put, σ_with]; rw [putL_lt hn]; exact hσl n hn) rfl
      · obtain ⟨fl, hfe⟩ : ∃ fl, m0 :: fl0 = fl := ⟨_, rfl⟩
        simp only [hfe] at hfl ⊢
        have hne : fl ≠ [] := by rw [← hfe]; simp
        have hpos : 0 < fl.length := by rw [← hfe]; simp
        have hp0 : ¬ (fl.length : Int) = 0 := by omega
        have hfn : fl.length ≤ 6000 := by rw [← hfl, ← h.r.f]; have := h.fl; omega
        obtain ⟨k, hk, hkl⟩ : ∃ k : Nat, within raw (fl.length : Int) = k ∧ k < fl.length := by
          have := within_bounds raw (n := (fl.length : Int)) (by omega)
          exact ⟨(within raw (fl.length : Int)).toNat, by omega, by omega⟩
        obtain ⟨m, hm⟩ : ∃ v, fl[k]'(hkl) = v := ⟨_, rfl⟩
        have hm' : fl[k]? = some m := by rw [List.getElem?_eq_getElem (hkl), hm]
        have htw : twiceW w k = { w with flight := fl ++ [m] } := by simp -implicitDefEqProofs [twiceW, hfl, hkl, hm]
        obtain ⟨fl2, hfe2⟩ : ∃ fl2, fl ++ [m] = fl2 := ⟨_, rfl⟩
        rw [hfe2] at htw
        have h2len : fl2.length = fl.length + 1 := by rw [← hfe2]; simp
        have h2k : k < fl2.length := by omega
        have h2n : fl.length < fl2.length := by omega
        have h2g : fl2[fl.length]'h2n = m := by subst hfe2; simp
        have h2g' : fl2[fl.length]? = some m := by rw [List.getElem?_eq_getElem h2n, h2g]
        obtain ⟨w2, hw2e⟩ : ∃ w2, ({ w with flight := fl2 } : Wire) = w2 := ⟨_, rfl⟩
        rw [hw2e] at htw
        have hw2 : WOk w2 := by rw [← hw2e]; exact ⟨hw.vs, by show fl2.length < 900000; omega, hw.ap, hw.ck, hw.op, hw.nd, hw.wf⟩
        have hfl2 : w2.flight = fl2 := by rw [← hw2e]
        obtain ⟨fl3, hfe3⟩ : ∃ fl3, fl2.eraseIdx k = fl3 := ⟨_, rfl⟩
        have h3len : fl3.length = fl.length := by rw [← hfe3, List.length_eraseIdx, if_pos h2k]; omega
        have hdw : dropW w2 k = { w2 with flight := fl3 } := by rw [dropW, if_pos (by rw [hfl2]; omega), hfl2, ← hfe3]; rfl
        obtain ⟨w3, hw3e⟩ : ∃ w3, ({ w2 with flight := fl3 } : Wire) = w3 := ⟨_, rfl⟩
        rw [hw3e] at hdw
        have hw3 : WOk w3 := by rw [← hw3e]; exact ⟨hw2.vs, by show fl3.length < 900000; omega, hw2.ap, hw2.ck, hw2.op, hw2.nd, hw2.wf⟩
        have hfl3 : w3.flight = fl3 := by rw [← hw3e]
        have hf3a : ∀ i, i < k → fl3[i]? = fl[i]? := fun i hi => by rw [← hfe3, List.getElem?_eraseIdx, if_pos hi, ← hfe2, List.getElem?_append_left (by omega)]
        have hf3b : ∀ i, k ≤ i → i + 1 < fl.length → fl3[i]? = fl[i + 1]? := fun i hi hi2 => by rw [← hfe3, List.getElem?_eraseIdx, if_neg (by omega), ← hfe2, List.getElem?_append_left (by omega)]
        have hf3c : ∀ i, i + 1 = fl.length → fl3[i]? = some m := fun i hi => by rw [← hfe3, List.getElem?_eraseIdx, if_neg (by omega), hi, h2g']
        have hlt1 : (fl.length : Int) < (fl.length : Int) + 1 := by omega
        have e1 : IntKind.i64.wrap ((fl.length : Int) + 1) = (fl.length : Int) + 1 := wrap_id (by omega) (by omega)
        refine Tri.seq ?_
        refine Tri.seqX ttok rfl (by simp -implicitDefEqProofs [hne, hp0, hkl, hm, hm', h2len, h2k, h2n, h2g, h2g', h3len, e1, hlt1, msgRow, eqFs] <;> rfl) ?_
        refine Tri.cond (b := false) (by simp -implicitDefEqProofs [hne, hp0, hkl, hm, hm', h2len, h2k, h2n, h2g, h2g', h3len, e1, hlt1, msgRow, eqFs]) (fun h => by cases h) (fun _ => ?_)
        refine Tri.skip ?_
        refine Tri.seqR ttok rfl ?_
        refine OpsA.runX 3 (by simp -implicitDefEqProofs [hne, hp0, hkl, hm, hm', h2len, h2k, h2n, h2g, h2g', h3len, e1, hlt1, msgRow, eqFs] <;> rfl) ?_
        simp only [List.drop]
        refine OpsA.call (call_withinB (a := raw) (n := (fl.length : Int)) (by omega) (by omega)) rfl (by simp -implicitDefEqProofs [hne, hp0, hkl, hm, hm', h2len, h2k, h2n, h2g, h2g', h3len, e1, hlt1, msgRow, eqFs] <;> rfl) (by kernel_rfl) (by simp -implicitDefEqProofs) rfl ?_
        rintro x σ' ⟨rfl, rfl⟩
        rw [hk]
        refine OpsA.all (by simp -implicitDefEqProofs [hne, hp0, hkl, hm, hm', h2len, h2k, h2n, h2g, h2g', h3len, e1, hlt1, msgRow, eqFs] <;> rfl) ?_
        refine Tri.seq ?_
        refine Tri.seqR ttok rfl ?_
        refine OpsA.runX 2 (by simp -implicitDefEqProofs [hne, hp0, hkl, hm, hm', h2len, h2k, h2n, h2g, h2g', h3len, e1, hlt1, msgRow, eqFs] <;> rfl) ?_
        simp only [List.drop]
        refine OpsA.call (ltwice (i := (k : Int)) hw) rfl (by simp -implicitDefEqProofs [hne, hp0, hkl, hm, hm', h2len, h2k, h2n, h2g, h2g', h3len, e1, hlt1, msgRow, eqFs] <;> rfl) (by kernel_rfl) (by simp -implicitDefEqProofs) rfl ?_
        rintro x σ' ⟨rfl, rfl⟩
        rw [show decide (0 ≤ (k : Int) ∧ (k : Int) < w.flight.length) = true by rw [hfl]; simp; omega, htw]
        refine OpsA.all (by simp -implicitDefEqProofs [hne, hp0, hkl, hm, hm', h2len, h2k, h2n, h2g, h2g', h3len, e1, hlt1, msgRow, eqFs] <;> rfl) ?_
        refine Tri.cond (b := false) (by simp -implicitDefEqProofs [hne, hp0, hkl, hm, hm', h2len, h2k, h2n, h2g, h2g', h3len, e1, hlt1, msgRow, eqFs]) (fun h => by cases h) (fun _ => ?_)
        refine Tri.skip ?_
        refine Tri.seqR ttok rfl ?_
        refine OpsA.runX 1 (by simp -implicitDefEqProofs [hne, hp0, hkl, hm, hm', h2len, h2k, h2n, h2g, h2g', h3len, e1, hlt1, msgRow, eqFs] <;> rfl) ?_
        simp only [List.drop]
        refine OpsA.call (lflight hw2) rfl (by simp -implicitDefEqProofs [hne, hp0, hkl, hm, hm', h2len, h2k, h2n, h2g, h2g', h3len, e1, hlt1, msgRow, eqFs] <;> rfl) (by kernel_rfl) (by simp -implicitDefEqProofs) rfl ?_
        rintro x σ' ⟨rfl, rfl⟩
        rw [hfl2]
        refine OpsA.all (by simp -implicitDefEqProofs [hne, hp0, hkl, hm, hm', h2len, h2k, h2n, h2g, h2g', h3len, e1, hlt1, msgRow, eqFs] <;> rfl) ?_
        refine Tri.seq ?_
        refine Tri.seqD ttok mix [0, 2, 1, 3, 4, 5, 6, 7, 8, 12, 13, 9, 10, 11, 14, 15, 16, 17, 18, 19, 20, 21, 22, 23] (by kernel_rfl) rfl ?_
        simp only [List.filterMap, List.map, List.getElem?_cons_succ, List.getElem?_cons_zero]
        refine OpsA.runG 21 (by simp -implicitDefEqProofs [hne, hp0, hkl, hm, hm', h2len, h2k, h2n, h2g, h2g', h3len, e1, hlt1, msgRow, eqFs] <;> rfl) ?_
        simp only [List.drop]
        refine OpsA.guard rfl rfl (by simp -implicitDefEqProofs [hne, hp0, hkl, hm, hm', h2len, h2k, h2n, h2g, h2g', h3len, e1, hlt1, msgRow, eqFs] <;> rfl) (fun _ => ?_) (fun h => absurd rfl h)
        refine OpsA.call (ldrop (i := (k : Int)) hw2) rfl (by simp -implicitDefEqProofs [hne, hp0, hkl, hm, hm', h2len, h2k, h2n, h2g, h2g', h3len, e1, hlt1, msgRow, eqFs] <;> rfl) (by kernel_rfl) (by simp -implicitDefEqProofs) rfl ?_
        rintro x σ' ⟨rfl, rfl⟩
        rw [show decide (0 ≤ (k : Int) ∧ (k : Int) < w2.flight.length) = true by rw [hfl2]; simp; omega, hdw]
        refine OpsA.allG (by simp -implicitDefEqProofs [hne, hp0, hkl, hm, hm', h2len, h2k, h2n, h2g, h2g', h3len, e1, hlt1, msgRow, eqFs] <;> rfl) ?_
        refine Tri.cond (b := false) (by simp -implicitDefEqProofs [hne, hp0, hkl, hm, hm', h2len, h2k, h2n, h2g, h2g', h3len, e1, hlt1, msgRow, eqFs]) (fun h => by cases h) (fun _ => ?_)
        refine Tri.skip ?_
        refine Tri.seqR ttok rfl ?_
        refine OpsA.runX 1 (by simp -implicitDefEqProofs [hne, hp0, hkl, hm, hm', h2len, h2k, h2n, h2g, h2g', h3len, e1, hlt1, msgRow, eqFs] <;> rfl) ?_
        simp only [List.drop]
        refine OpsA.call (lflight hw3) rfl (by simp -implicitDefEqProofs [hne, hp0, hkl, hm, hm', h2len, h2k, h2n, h2g, h2g', h3len, e1, hlt1, msgRow, eqFs] <;> rfl) (by kernel_rfl) (by simp -implicitDefEqProofs) rfl ?_
        rintro x σ' ⟨rfl, rfl⟩
        rw [hfl3]
        refine OpsA.all (by simp -implicitDefEqProofs [hne, hp0, hkl, hm, hm', h2len, h2k, h2n, h2g, h2g', h3len, e1, hlt1, msgRow, eqFs] <;> rfl) ?_
        refine Tri.seq ?_
        refine Tri.seqX ttok rfl (by simp -implicitDefEqProofs [hne, hp0, hkl, hm, hm', h2len, h2k, h2n, h2g, h2g', h3len, e1, hlt1, msgRow, eqFs] <;> rfl) ?_
        refine Tri.cond (b := false) (by simp -implicitDefEqProofs [hne, hp0, hkl, hm, hm', h2len, h2k, h2n, h2g, h2g', h3len, e1, hlt1, msgRow, eqFs]) (fun h => by cases h) (fun _ => ?_)
        refine Tri.skip ?_
        refine Tri.seq ?_
        refine Tri.seqX ttok rfl (by simp -implicitDefEqProofs [hne, hp0, hkl, hm, hm', h2len, h2k, h2n, h2g, h2g', h3len, e1, hlt1, msgRow, eqFs] <;> rfl) ?_
        refine Tri.block ?_
        refine Tri.loopL (α := Nat × Nat) (fun x_ => ({ t := tl [(8, .sl (fl.map msgRow)), (9, .int .i64 (k : Int)), (11, .sl (fl3.map msgRow)), (12, .int .i64 (x_.1 : Int))], σ := putL c σ2 w3, c := x_.2, fr := [], m := 129, ds := [] } : AS)) (fun x_ => fl.length - x_.1) (fun x_ => x_.1 ≤ fl.length ∧ c + 7 ≤ x_.2) (0, c + 7) ?_ ⟨Nat.zero_le _, Nat.le_refl _⟩ ?_
        · refine Le.gh ⟨?_, ?_, ?_, ?_, ?_, ?_⟩
          · exact LeT.cons (by simp -implicitDefEqProofs) (LeT.cons (by simp -implicitDefEqProofs) (LeT.cons (by simp -implicitDefEqProofs) (LeT.cons (by simp -implicitDefEqProofs) (LeT.nil))))
          · simp
          · simp
          · simp
          · rfl
          · rfl
        · rintro ⟨i, cc⟩ ⟨hi, hcc⟩
          replace hi : i ≤ fl.length := hi
          replace hcc : c + 7 ≤ cc := hcc
          have ucc := fun (σ' : Nat → Option AO) (w' : Wire) (y : Option AO) => putL_upd (c := c) (σ := σ') (w := w') (x := y) (show c + 3 ≤ cc by omega)
          have atcc := fun (σ' : Nat → Option AO) (w' : Wire) => putL_at (c := c) (σ := σ') (w := w') (show c + 3 ≤ cc by omega)
          have hσc : upd σ2 cc none = σ2 := upd_self _ _ (hσh cc hcc)
          refine Tri.fresh ?_
          by_cases hlt : i < fl.length
          · have e2 : IntKind.i64.wrap ((i : Int) + 1) = (i : Int) + 1 := wrap_id (by omega) (by omega)
            have e7 : IntKind.i64.wrap ((i : Int) + 1) = ((i + 1 : Nat) : Int) := by rw [e2]; omega
            have e3 : IntKind.i64.wrap ((fl.length : Int) - 1) = (fl.length : Int) - 1 := wrap_id (by omega) (by omega)
            have h3l : i < fl3.length := by omega
            have hjl : min (i + 1) (fl.length - 1) < fl.length := by omega
            obtain ⟨j, hj⟩ : ∃ j, min (i + 1) (fl.length - 1) = j := ⟨_, rfl⟩
            rw [hj] at hjl
            have emin : (if (fl.length : Int) - 1 < (i : Int) + 1 then (fl.length : Int) - 1 else (i : Int) + 1) = (j : Int) := by split <;> omega
            have emin2 : min ((i : Int) + 1) ((fl.length : Int) - 1) = (j : Int) := by omega
            obtain ⟨p, hp⟩ : ∃ v, fl[i]'(hlt) = v := ⟨_, rfl⟩
            have hp' : fl[i]? = some p := by rw [List.getElem?_eq_getElem (hlt), hp]
            obtain ⟨pj, hpj⟩ : ∃ v, fl[j]'(hjl) = v := ⟨_, rfl⟩
            have hpj' : fl[j]? = some pj := by rw [List.getElem?_eq_getElem (hjl), hpj]
            obtain ⟨r, hr⟩ : ∃ v, fl3[i]'(h3l) = v := ⟨_, rfl⟩
            have hr' : fl3[i]? = some r := by rw [List.getElem?_eq_getElem (h3l), hr]
            refine Tri.seq ?_
            refine Tri.seqX ttok rfl (by simp -implicitDefEqProofs [hlt, hr, hr', h3l, hp, hp', hpj, hpj', hm, hm', hkl, hjl, h3len, e2, e3, emin, emin2, msgRow, ucc, atcc, eqFs] <;> rfl) ?_
            refine Tri.cond (b := true) (by simp -implicitDefEqProofs [hlt, hr, hr', h3l, hp, hp', hpj, hpj', hm, hm', hkl, hjl, h3len, e2, e3, emin, emin2, msgRow, ucc, atcc, eqFs]) (fun _ => ?_) (fun h => by cases h)
            refine Tri.skip ?_
            refine Tri.seq ?_
            refine Tri.block ?_
            refine Tri.seqR ttok rfl ?_
            refine OpsA.runX 9 (by simp -implicitDefEqProofs [hlt, hr, hr', h3l, hp, hp', hpj, hpj', hm, hm', hkl, hjl, h3len, e2, e3, emin, emin2, msgRow, ucc, atcc, eqFs] <;> rfl) ?_
            simp only [List.drop]
            refine OpsA.new (cc) rfl (by simp -implicitDefEqProofs [hlt, hr, hr', h3l, hp, hp', hpj, hpj', hm, hm', hkl, hjl, h3len, e2, e3, emin, emin2, msgRow, ucc, atcc, eqFs] <;> rfl) (by simp -implicitDefEqProofs) (by simp -implicitDefEqProofs <;> rfl) ?_
            refine OpsA.all (by simp -implicitDefEqProofs [hlt, hr, hr', h3l, hp, hp', hpj, hpj', hm, hm', hkl, hjl, h3len, e2, e3, emin, emin2, msgRow, ucc, atcc, eqFs] <;> rfl) ?_
            rcases (show (i < k ∧ i + 1 ≠ fl.length) ∨ (¬ i < k ∧ i + 1 ≠ fl.length) ∨ (¬ i < k ∧ i + 1 = fl.length) by omega) with ⟨hik, hln⟩ | ⟨hik, hln⟩ | ⟨hik, hln⟩
            · have hln2 : ¬ (i : Int) = (fl.length : Int) - 1 := by omega
              have hr4 : r = p := by
                have := hf3a i hik; rw [hr', hp'] at this; exact Option.some.inj this
              refine Tri.seq ?_
              refine Tri.seqX ttok rfl (by simp -implicitDefEqProofs [hlt, hr, hr', h3l, hp, hp', hpj, hpj', hm, hm', hkl, hjl, h3len, e2, e3, emin, emin2, msgRow, ucc, atcc, eqFs, hik, hr4, hln2] <;> rfl) ?_
              refine Tri.cond (b := true) (by simp -implicitDefEqProofs [hlt, hr, hr', h3l, hp, hp', hpj, hpj', hm, hm', hkl, hjl, h3len, e2, e3, emin, emin2, msgRow, ucc, atcc, eqFs, hik, hr4, hln2]) (fun _ => ?_) (fun h => by cases h)
              refine Tri.x ttok rfl (by simp -implicitDefEqProofs [hlt, hr, hr', h3l, hp, hp', hpj, hpj', hm, hm', hkl, hjl, h3len, e2, e3, emin, emin2, msgRow, ucc, atcc, eqFs, hik, hr4, hln2] <;> rfl) ?_
              refine Tri.seq ?_
              refine Tri.seqX ttok rfl (by simp -implicitDefEqProofs [hlt, hr, hr', h3l, hp, hp', hpj, hpj', hm, hm', hkl, hjl, h3len, e2, e3, emin, emin2, msgRow, ucc, atcc, eqFs, hik, hr4, hln2] <;> rfl) ?_
              refine Tri.cond (b := false) (by simp -implicitDefEqProofs [hlt, hr, hr', h3l, hp, hp', hpj, hpj', hm, hm', hkl, hjl, h3len, e2, e3, emin, emin2, msgRow, ucc, atcc, eqFs, hik, hr4, hln2]) (fun h => by cases h) (fun _ => ?_)
              refine Tri.skip ?_
              refine Tri.seqD ttok mix [0, 1, 2, 3, 4, 5] (by kernel_rfl) rfl ?_
              simp only [List.filterMap, List.map, List.getElem?_cons_succ, List.getElem?_cons_zero]
              refine OpsA.all (by simp -implicitDefEqProofs [hlt, hr, hr', h3l, hp, hp', hpj, hpj', hm, hm', hkl, hjl, h3len, e2, e3, emin, emin2, msgRow, ucc, atcc, eqFs, hik, hr4, hln2] <;> rfl) ?_
              refine Tri.cond (b := false) (by simp -implicitDefEqProofs [hlt, hr, hr', h3l, hp, hp', hpj, hpj', hm, hm', hkl, hjl, h3len, e2, e3, emin, emin2, msgRow, ucc, atcc, eqFs, hik, hr4, hln2]) (fun h => by cases h) (fun _ => ?_)
              refine Tri.skip ?_
              try simp only [thenQ, blockQ]
              refine Tri.x ttok rfl (by simp -implicitDefEqProofs [hlt, hr, hr', h3l, hp, hp', hpj, hpj', hm, hm', hkl, hjl, h3len, e2, e3, emin, emin2, msgRow, ucc, atcc, eqFs, hik, hr4, hln2] <;> rfl) ?_
              exact ⟨(i + 1, cc + 1), ⟨by dsimp only; omega, by dsimp only; omega⟩, by dsimp only; omega, Gh.trans (Gh.kill cc) (Le.gh ⟨LeT.cons (by simp -implicitDefEqProofs [e7]) (LeT.cons (by simp -implicitDefEqProofs [e7]) (LeT.cons (by simp -implicitDefEqProofs [e7]) (LeT.cons (by simp -implicitDefEqProofs [e7]) (LeT.nil)))), by simp -implicitDefEqProofs [ucc, hσc], by simp -implicitDefEqProofs, by simp -implicitDefEqProofs, rfl, rfl⟩)⟩
            · have hln2 : ¬ (i : Int) = (fl.length : Int) - 1 := by omega
              have hr4 : r = pj := by
                have := hf3b i (by omega) (by omega); rw [hr', show i + 1 = j by omega, hpj'] at this; exact Option.some.inj this
              refine Tri.seq ?_
              refine Tri.seqX ttok rfl (by simp -implicitDefEqProofs [hlt, hr, hr', h3l, hp, hp', hpj, hpj', hm, hm', hkl, hjl, h3len, e2, e3, emin, emin2, msgRow, ucc, atcc, eqFs, hik, hr4, hln2] <;> rfl) ?_
              refine Tri.cond (b := false) (by simp -implicitDefEqProofs [hlt, hr, hr', h3l, hp, hp', hpj, hpj', hm, hm', hkl, hjl, h3len, e2, e3, emin, emin2, msgRow, ucc, atcc, eqFs, hik, hr4, hln2]) (fun h => by cases h) (fun _ => ?_)
              refine Tri.skip ?_
              refine Tri.seq ?_
              refine Tri.seqX ttok rfl (by simp -implicitDefEqProofs [hlt, hr, hr', h3l, hp, hp', hpj, hpj', hm, hm', hkl, hjl, h3len, e2, e3, emin, emin2, msgRow, ucc, atcc, eqFs, hik, hr4, hln2] <;> rfl) ?_
              refine Tri.cond (b := false) (by simp -implicitDefEqProofs [hlt, hr, hr', h3l, hp, hp', hpj, hpj', hm, hm', hkl, hjl, h3len, e2, e3, emin, emin2, msgRow, ucc, atcc, eqFs, hik, hr4, hln2]) (fun h => by cases h) (fun _ => ?_)
              refine Tri.skip ?_
              refine Tri.seqD ttok mix [0, 1, 2, 3, 4, 5] (by kernel_rfl) rfl ?_
              simp only [List.filterMap, List.map, List.getElem?_cons_succ, List.getElem?_cons_zero]
              refine OpsA.all (by simp -implicitDefEqProofs [hlt, hr, hr', h3l, hp, hp', hpj, hpj', hm, hm', hkl, hjl, h3len, e2, e3, emin, emin2, msgRow, ucc, atcc, eqFs, hik, hr4, hln2] <;> rfl) ?_
              refine Tri.cond (b := false) (by simp -implicitDefEqProofs [hlt, hr, hr', h3l, hp, hp', hpj, hpj', hm, hm', hkl, hjl, h3len, e2, e3, emin, emin2, msgRow, ucc, atcc, eqFs, hik, hr4, hln2]) (fun h => by cases h) (fun _ => ?_)
              refine Tri.skip ?_
              try simp only [thenQ, blockQ]
              refine Tri.x ttok rfl (by simp -implicitDefEqProofs [hlt, hr, hr', h3l, hp, hp', hpj, hpj', hm, hm', hkl, hjl, h3len, e2, e3, emin, emin2, msgRow, ucc, atcc, eqFs, hik, hr4, hln2] <;> rfl) ?_
              exact ⟨(i + 1, cc + 1), ⟨by dsimp only; omega, by dsimp only; omega⟩, by dsimp only; omega, Gh.trans (Gh.kill cc) (Le.gh ⟨LeT.cons (by simp -implicitDefEqProofs [e7]) (LeT.cons (by simp -implicitDefEqProofs [e7]) (LeT.cons (by simp -implicitDefEqProofs [e7]) (LeT.cons (by simp -implicitDefEqProofs [e7]) (LeT.nil)))), by simp -implicitDefEqProofs [ucc, hσc], by simp -implicitDefEqProofs, by simp -implicitDefEqProofs, rfl, rfl⟩)⟩
            · have e8 : IntKind.i64.wrap (i : Int) = (i : Int) := wrap_id (by omega) (by omega)
              have hln2 : (fl.length : Int) - 1 = (i : Int) := by omega
              have hlt3 : (i : Int) < (i : Int) + 1 := by omega
              have hr4 : r = m := by
                have := hf3c i (by omega); rw [hr'] at this; exact Option.some.inj this
              refine Tri.seq ?_
              refine Tri.seqX ttok rfl (by simp -implicitDefEqProofs [hlt, hr, hr', h3l, hp, hp', hpj, hpj', hm, hm', hkl, hjl, h3len, e2, e3, emin, emin2, msgRow, ucc, atcc, eqFs, hik, hr4, hln2, hlt3, e8] <;> rfl) ?_
              refine Tri.cond (b := false) (by simp -implicitDefEqProofs [hlt, hr, hr', h3l, hp, hp', hpj, hpj', hm, hm', hkl, hjl, h3len, e2, e3, emin, emin2, msgRow, ucc, atcc, eqFs, hik, hr4, hln2, hlt3, e8]) (fun h => by cases h) (fun _ => ?_)
              refine Tri.skip ?_
              refine Tri.seq ?_
              refine Tri.seqX ttok rfl (by simp -implicitDefEqProofs [hlt, hr, hr', h3l, hp, hp', hpj, hpj', hm, hm', hkl, hjl, h3len, e2, e3, emin, emin2, msgRow, ucc, atcc, eqFs, hik, hr4, hln2, hlt3, e8] <;> rfl) ?_
              refine Tri.cond (b := true) (by simp -implicitDefEqProofs [hlt, hr, hr', h3l, hp, hp', hpj, hpj', hm, hm', hkl, hjl, h3len, e2, e3, emin, emin2, msgRow, ucc, atcc, eqFs, hik, hr4, hln2, hlt3, e8]) (fun _ => ?_) (fun h => by cases h)
              refine Tri.x ttok rfl (by simp -implicitDefEqProofs [hlt, hr, hr', h3l, hp, hp', hpj, hpj', hm, hm', hkl, hjl, h3len, e2, e3, emin, emin2, msgRow, ucc, atcc, eqFs, hik, hr4, hln2, hlt3, e8] <;> rfl) ?_
              refine Tri.seqD ttok mix [0, 1, 2, 3, 4, 5] (by kernel_rfl) rfl ?_
              simp only [List.filterMap, List.map, List.getElem?_cons_succ, List.getElem?_cons_zero]
              refine OpsA.all (by simp -implicitDefEqProofs [hlt, hr, hr', h3l, hp, hp', hpj, hpj', hm, hm', hkl, hjl, h3len, e2, e3, emin, emin2, msgRow, ucc, atcc, eqFs, hik, hr4, hln2, hlt3, e8] <;> rfl) ?_
              refine Tri.cond (b := false) (by simp -implicitDefEqProofs [hlt, hr, hr', h3l, hp, hp', hpj, hpj', hm, hm', hkl, hjl, h3len, e2, e3, emin, emin2, msgRow, ucc, atcc, eqFs, hik, hr4, hln2, hlt3, e8]) (fun h => by cases h) (fun _ => ?_)
              refine Tri.skip ?_
              try simp only [thenQ, blockQ]
              refine Tri.x ttok rfl (by simp -implicitDefEqProofs [hlt, hr, hr', h3l, hp, hp', hpj, hpj', hm, hm', hkl, hjl, h3len, e2, e3, emin, emin2, msgRow, ucc, atcc, eqFs, hik, hr4, hln2, hlt3, e8] <;> rfl) ?_
              exact ⟨(i + 1, cc + 1), ⟨by dsimp only; omega, by dsimp only; omega⟩, by dsimp only; omega, Gh.trans (Gh.kill cc) (Le.gh ⟨LeT.cons (by simp -implicitDefEqProofs [e7]) (LeT.cons (by simp -implicitDefEqProofs [e7]) (LeT.cons (by simp -implicitDefEqProofs [e7]) (LeT.cons (by simp -implicitDefEqProofs [e7]) (LeT.nil)))), by simp -implicitDefEqProofs [ucc, hσc], by simp -implicitDefEqProofs, by simp -implicitDefEqProofs, rfl, rfl⟩)⟩
          · have hi3 : ¬ i < fl3.length := by omega
            refine Tri.seq ?_
            refine Tri.seqX ttok rfl (by simp -implicitDefEqProofs [hlt, hi3, h3len] <;> rfl) ?_
            refine Tri.cond (b := false) (by simp -implicitDefEqProofs [hlt, hi3, h3len]) (fun h => by cases h) (fun _ => ?_)
            refine Tri.exit ?_
            try simp only [thenQ, blockQ, if_true]
            refine Tri.seqX ttok rfl (by simp -implicitDefEqProofs [hlt, hi3, h3len] <;> rfl) ?_
            refine Tri.ret ?_
            exact fnPost.tmp (.inr rfl) rfl (by rfl) (by simp -implicitDefEqProofs <;> rfl) (by exact True.intro) (Stays.law fun n hn => by show putL c σ2 w3 n = none; rw [putL_lt hn]; exact hσl n hn) rfl
end Go.Proofs.Ytilpklkgmibpgaa
