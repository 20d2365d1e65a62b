import Derived.Test.YtilpklkgmibpgaaT33
namespace Go.Proofs.Ytilpklkgmibpgaa
open Go.Ab
set_option maxHeartbeats 400000
set_option linter.unusedVariables false
set_option linter.unusedSimpArgs false
attribute [local simp] tt3 tt4 tt9 tt22 tt24 tt30 tt31 tt36 tt42 tt55 tt57 tt63 tt71 tt72 tt74 tt77 tt81
attribute [local simp] eqA sliceEq rowsA fillR appendA AV.lt mapElem lookupA mapPutA mapDelA mapClearA lenA sliceA indexA nth buildA fillA placesA TI.zv nilEq fieldOfA
attribute [local simp] List.filter_cons


theorem call_withinB {a n : Int} {σ : Nat → Option AO} (hn : 0 < n) (hn2 : n ≤ 1000000) : CallA Try.prog 15 [.int .i64 a, .int .i64 n] σ [] fun x σ' => x = .int .i64 (within a n) ∧ σ' = σ := by
  have hb := tmod_bounds a hn
  have hn0 : ¬ n = 0 := by omega
  refine CallA.of ttok Try.func15 rfl (show 2 ≤ 15 by decide) fun c hF => ?_
  have hσ := cutσ_self fun n hn => (hF.good.2 n hn : σ n = none)
  refine Tri.seqX ttok rfl (by simp -implicitDefEqProofs; rfl) ?_
  refine Tri.seqX ttok rfl (by simp -implicitDefEqProofs [hn0]; rfl) ?_
  refine Tri.seq (Tri.seqX ttok rfl (by simp -implicitDefEqProofs; rfl) ?_)
  refine Tri.cond (by simp -implicitDefEqProofs; rfl) (fun h => ?_) (fun h => ?_)
  · have h := of_decide_eq_true h
    refine Tri.x ttok rfl (by simp -implicitDefEqProofs; rfl) ?_
    refine Tri.seqX ttok rfl (by simp -implicitDefEqProofs; rfl) ?_
    refine Tri.ret (fnPost.tmp (.inr rfl) rfl rfl (by simp -implicitDefEqProofs; rfl) (by exact True.intro) (Stays.refl _ _) ⟨?_, ?_⟩)
    · simp [within, h]; rw [wrap_id (by omega) (by omega)]
    · simpa using hσ
  · have h := of_decide_eq_false h
    refine Tri.skip ?_
    refine Tri.seqX ttok rfl (by simp -implicitDefEqProofs; rfl) ?_
    refine Tri.ret (fnPost.tmp (.inr rfl) rfl rfl (by simp -implicitDefEqProofs; rfl) (by exact True.intro) (Stays.refl _ _) ⟨?_, ?_⟩)
    · simp [within, h]
    · simpa using hσ

/-- What is applied: by the values in order, each key once; what flies back was applied. -/
structure Once (w : Wire) : Prop where
  val : ∀ (k : Nat) (a : Ev), w.applied[k]? = some a → a.value = w.values.getD k 0
  nd : (w.applied.map (·.key)).Nodup
  bk : ∀ m ∈ w.flight, m.back = true → ∃ a ∈ w.applied, a.key = m.ev.key ∧ a.value = m.ev.value
theorem Once.same {w w' : Wire} (h : Once w) (ha : w'.applied = w.applied) (hv : w'.values = w.values) (hf : ∀ m ∈ w'.flight, m.back = true → m ∈ w.flight) : Once w' :=
  ⟨by rw [ha, hv]; exact h.val, by rw [ha]; exact h.nd, fun m hm hb => by rw [ha]; exact h.bk m (hf m hm hb) hb⟩
theorem Once.ask {w : Wire} (h : Once w) (e : Ev) : Once (askW w e) := by
  unfold askW
  split
  · exact h
  · refine h.same rfl rfl fun m hm hb => ?_
    simp only [List.mem_append, List.mem_singleton] at hm
    rcases hm with hm | rfl
    · exact hm
    · cases hb
theorem Once.drop {w : Wire} (h : Once w) (i : Int) : Once (dropW w i) := by
  unfold dropW
  split
  · exact h.same rfl rfl fun m hm _ => (List.eraseIdx_sublist ..).subset hm
  · exact h
theorem Once.twice {w : Wire} (h : Once w) (i : Int) : Once (twiceW w i) := by
  unfold twiceW
  split
  · rename_i m hm
    refine h.same rfl rfl fun q hq _ => ?_
    simp only [List.mem_append, List.mem_singleton] at hq
    rcases hq with hq | rfl
    · exact hq
    · split at hm
      · exact List.mem_of_getElem? hm
      · cases hm
  · exact h
theorem Once.value {w : Wire} (h : Once w) (e : Ev) : Once (valueW w e) ∧ ∃ a ∈ (valueW w e).applied, a.key = e.key ∧ a.value = valueOf w e := by
  unfold valueW valueOf
  cases hf : w.applied.find? (fun a => decide (a.key = e.key)) with
  | some a =>
    refine ⟨h, a, List.mem_of_find?_eq_some hf, by simpa using List.find?_some hf, rfl⟩
  | none =>
    have hno : ∀ a ∈ w.applied, a.key ≠ e.key := fun a ha => by
      have := List.find?_eq_none.1 hf a ha
      simpa using this
    refine ⟨⟨fun k a hk => ?_, ?_, fun m hm hb => ?_⟩, ⟨e.name, e.key, w.values.getD w.applied.length 0⟩, by simp -implicitDefEqProofs, rfl, rfl⟩
    · show a.value = w.values.getD k 0
      replace hk : (w.applied ++ [(⟨e.name, e.key, w.values.getD w.applied.length 0⟩ : Ev)])[k]? = some a := hk
      by_cases hl : k < w.applied.length
      · rw [List.getElem?_append_left hl] at hk; exact h.val k a hk
      · rw [List.getElem?_append_right (by omega)] at hk
        have hz : k - w.applied.length = 0 := by
          cases hz : k - w.applied.length with
          | zero => rfl
          | succ n => rw [hz] at hk; simp at hk
        rw [hz] at hk
        simp only [List.getElem?_cons_zero, Option.some.injEq] at hk
        subst hk
        rw [show k = w.applied.length by omega]
    · simp only [List.map_append, List.map_cons, List.map_nil]
      rw [List.nodup_append]
      refine ⟨h.nd, by simp -implicitDefEqProofs, fun a ha b hb => ?_⟩
      obtain ⟨p, hp, rfl⟩ := List.mem_map.1 ha
      simp only [List.mem_singleton] at hb
      subst hb
      exact hno p hp
    · obtain ⟨a, ha, h1⟩ := h.bk m hm hb
      exact ⟨a, List.mem_append_left _ ha, h1⟩
theorem valueW_flight (w : Wire) (e : Ev) : (valueW w e).flight = w.flight := by unfold valueW; split <;> rfl
theorem Once.deliver {w : Wire} (h : Once w) (i : Int) : Once (deliverW w i).2 := by
  have hd := h.drop i
  unfold deliverW
  split
  · exact h
  · rename_i m hm
    simp only
    split
    · split
      · exact hd.same rfl rfl fun m hm _ => hm
      · exact hd
    · obtain ⟨h1, a, h2, h3, h4⟩ := hd.value m.ev
      refine ⟨h1.val, h1.nd, fun q hq hb => ?_⟩
      rcases List.mem_append.1 hq with hq | hq
      · exact h1.bk q hq hb
      · simp only [List.mem_singleton] at hq
        subst hq
        exact ⟨a, h2, h3, h4⟩
theorem Once.told {w : Wire} (h : Once w) (i : Int) (ht : (deliverW w i).1.2 = true) : ∃ a ∈ (deliverW w i).2.applied, a.key = (deliverW w i).1.1.key ∧ a.value = (deliverW w i).1.1.value := by
  unfold deliverW at ht ⊢
  split at ht
  · cases ht
  · rename_i m hm
    have hmem : m ∈ w.flight := by
      split at hm
      · exact List.mem_of_getElem? hm
      · cases hm
    have hap : (dropW w i).applied = w.applied := by unfold dropW; split <;> rfl
    simp only at ht ⊢
    split at ht
    · rename_i hb
      split at ht
      · rename_i ho
        rw [if_pos hb, if_pos ho]
        show ∃ a ∈ (dropW w i).applied, _
        rw [hap]
        exact h.bk m hmem hb
      · cases ht
    · cases ht
theorem Once.tick {w : Wire} {x : RW} (h : Once w) (r : Rel w x) : Once (tickW w) := by
  have t := r.tick
  refine h.same (t.a.symm.trans r.a) (t.v.symm.trans r.v) fun m hm hb => ?_
  rw [← t.f] at hm
  rcases List.mem_append.1 (show m ∈ x.f ++ dueF (x.clock + 1) x.o from hm) with hm | hm
  · rw [← r.f]; exact hm
  · simp only [dueF, List.mem_map] at hm
    obtain ⟨p, _, rfl⟩ := hm
    cases hb
/-- The two wires, alike, behind so many steps. -/
structure Bd (vs : List Int) (k : Nat) (w : Wire) (x : RW) : Prop where
  r : Rel w x
  on : Once w
  vl : x.v.length ≤ 1000000
  vv : x.v = vs
  ol : x.o.length ≤ k
  fl : x.f.length ≤ 200 * k
  al : x.a.length ≤ k
  c0 : 0 ≤ x.clock
  ck : x.clock ≤ k
  wt : ∀ q ∈ x.o, 0 ≤ q.wait ∧ q.wait ≤ 8
  kb : ∀ q ∈ x.o, -9223372036854775808 ≤ q.e.key ∧ q.e.key ≤ 9223372036854775807
section
variable {vs : List Int} {k : Nat} {w : Wire} {x : RW}
theorem Bd.more (h : Bd vs k w x) : Bd vs (k + 1) w x := ⟨h.r, h.on, h.vl, h.vv, by have := h.ol; omega, by have := h.fl; omega, by have := h.al; omega, h.c0, by have := h.ck; omega, h.wt, h.kb⟩
theorem Bd.ollen (h : Bd vs k w x) : w.opens.length = x.o.length := by have := h.r.pm.length_eq; simpa using this
theorem Bd.wok (h : Bd vs k w x) (hk : k ≤ 200) : WOk w := by
  have h1 := h.r
  refine ⟨by rw [← h1.v]; exact h.vl, by rw [← h1.f]; have := h.fl; omega, by rw [← h1.a]; have := h.al; omega, by rw [← h1.ck]; have := h.c0; have := h.ck; omega, by rw [h.ollen]; have := h.ol; omega, h1.nd, fun p hp => ?_⟩
  obtain ⟨q, hq, rfl⟩ := List.mem_map.1 (h1.pm.mem_iff.1 hp)
  exact h.kb q hq
theorem Bd.wwt (h : Bd vs k w x) : ∀ p ∈ w.opens, 0 ≤ p.2.wait ∧ p.2.wait ≤ 8 := fun p hp => by
  obtain ⟨q, hq, rfl⟩ := List.mem_map.1 (h.r.pm.mem_iff.1 hp)
  exact h.wt q hq
theorem Bd.ask (h : Bd vs k w x) (e : Ev) (he : -9223372036854775808 ≤ e.key ∧ e.key ≤ 9223372036854775807) : Bd vs (k + 1) (askW w e) (askX x e) := by
  have r := h.r.ask e
  have h1 := h.ol; have h2 := h.fl; have h3 := h.al; have h4 := h.ck
  by_cases hi : isK x.o e.key = true
  · have e1 : askX x e = x := by simp -implicitDefEqProofs [askX, hi]
    have := h.more
    exact ⟨r, h.on.ask e, by rw [e1]; exact h.vl, by rw [e1]; exact h.vv, by rw [e1]; omega, by rw [e1]; omega, by rw [e1]; omega, by rw [e1]; exact h.c0, by rw [e1]; omega, by rw [e1]; exact h.wt, by rw [e1]; exact h.kb⟩
  · have e1 : askX x e = { x with o := x.o.take (findK x.o e.key) ++ [⟨⟨e.name, e.key, 0⟩, x.clock + 1, 1⟩] ++ x.o.drop (findK x.o e.key), f := x.f ++ [⟨false, ⟨e.name, e.key, 0⟩⟩] } := by unfold askX; exact if_neg hi
    refine ⟨r, h.on.ask e, by rw [e1]; exact h.vl, by rw [e1]; exact h.vv, by rw [e1]; simp; omega, by rw [e1]; simp; omega, by rw [e1]; show x.a.length ≤ _; omega, by rw [e1]; exact h.c0, by rw [e1]; show x.clock ≤ _; omega, ?_, ?_⟩
    · rw [e1]
      intro q hq
      simp only [List.mem_append, List.mem_singleton] at hq
      rcases hq with (hq | rfl) | hq
      · exact h.wt q (List.mem_of_mem_take hq)
      · exact ⟨show (0 : Int) ≤ 1 by omega, show (1 : Int) ≤ 8 by omega⟩
      · exact h.wt q (List.mem_of_mem_drop hq)
    · rw [e1]
      intro q hq
      simp only [List.mem_append, List.mem_singleton] at hq
      rcases hq with (hq | rfl) | hq
      · exact h.kb q (List.mem_of_mem_take hq)
      · exact he
      · exact h.kb q (List.mem_of_mem_drop hq)
theorem forgetX_len (x : RW) (key : Int) : (forgetX x key).o.length ≤ x.o.length := by
  unfold forgetX; split
  · simp [List.length_eraseIdx]; split <;> omega
  · exact Nat.le_refl _
theorem forgetX_sub {x : RW} {key : Int} {q : Opn} (hq : q ∈ (forgetX x key).o) : q ∈ x.o := by
  unfold forgetX at hq; split at hq
  · exact (List.eraseIdx_sublist ..).subset hq
  · exact hq
theorem forgetX_rest (x : RW) (key : Int) : (forgetX x key).v = x.v ∧ (forgetX x key).f = x.f ∧ (forgetX x key).a = x.a ∧ (forgetX x key).clock = x.clock := by
  unfold forgetX; split <;> exact ⟨rfl, rfl, rfl, rfl⟩
theorem Bd.forget (h : Bd vs k w x) (key : Int) : Bd vs k (forgetW w key) (forgetX x key) := by
  obtain ⟨e1, e2, e3, e4⟩ := forgetX_rest x key
  exact ⟨h.r.forget key, h.on.same rfl rfl fun m hm _ => hm, by rw [e1]; exact h.vl, by rw [e1]; exact h.vv, Nat.le_trans (forgetX_len x key) h.ol, by rw [e2]; exact h.fl, by rw [e3]; exact h.al, by rw [e4]; exact h.c0, by rw [e4]; exact h.ck, fun q hq => h.wt q (forgetX_sub hq), fun q hq => h.kb q (forgetX_sub hq)⟩
theorem Bd.crash (h : Bd vs k w x) : Bd vs k (crashW w) { x with o := [] } :=
  ⟨h.r.crash, h.on.same rfl rfl fun m hm _ => hm, h.vl, h.vv, Nat.zero_le _, h.fl, h.al, h.c0, h.ck, fun q hq => (by cases hq), fun q hq => (by cases hq)⟩
theorem dropX_rest (x : RW) (i : Int) : (dropX x i).v = x.v ∧ (dropX x i).o = x.o ∧ (dropX x i).a = x.a ∧ (dropX x i).clock = x.clock ∧ (dropX x i).f.length ≤ x.f.length := by
  unfold dropX; split
  · refine ⟨rfl, rfl, rfl, rfl, ?_⟩
    simp [List.length_eraseIdx]; split <;> omega
  · exact ⟨rfl, rfl, rfl, rfl, Nat.le_refl _⟩
theorem Bd.drop (h : Bd vs k w x) (i : Int) : Bd vs k (dropW w i) (dropX x i) := by
  obtain ⟨e1, e2, e3, e4, e5⟩ := dropX_rest x i
  exact ⟨h.r.drop i, h.on.drop i, by rw [e1]; exact h.vl, by rw [e1]; exact h.vv, by rw [e2]; exact h.ol, Nat.le_trans e5 h.fl, by rw [e3]; exact h.al, by rw [e4]; exact h.c0, by rw [e4]; exact h.ck, by rw [e2]; exact h.wt, by rw [e2]; exact h.kb⟩
theorem Bd.twice (h : Bd vs k w x) (i : Int) : Bd vs (k + 1) (twiceW w i) (twiceX x i) := by
  have h1 := h.ol; have h2 := h.fl; have h3 := h.al; have h4 := h.ck
  have e : (twiceX x i).v = x.v ∧ (twiceX x i).o = x.o ∧ (twiceX x i).a = x.a ∧ (twiceX x i).clock = x.clock ∧ (twiceX x i).f.length ≤ x.f.length + 1 := by
    unfold twiceX; split
    · exact ⟨rfl, rfl, rfl, rfl, by simp⟩
    · exact ⟨rfl, rfl, rfl, rfl, by omega⟩
  obtain ⟨e1, e2, e3, e4, e5⟩ := e
  exact ⟨h.r.twice i, h.on.twice i, by rw [e1]; exact h.vl, by rw [e1]; exact h.vv, by rw [e2]; omega, by omega, by rw [e3]; omega, by rw [e4]; exact h.c0, by rw [e4]; omega, by rw [e2]; exact h.wt, by rw [e2]; exact h.kb⟩
theorem Bd.tick (h : Bd vs k w x) (hk : k ≤ 150) : Bd vs (k + 1) (tickW w) (tickX x) := by
  have h1 := h.ol; have h2 := h.fl; have h3 := h.al; have h4 := h.ck; have h5 := h.c0
  have hd := dueF_len (x.clock + 1) x.o
  refine ⟨h.r.tick, h.on.tick h.r, h.vl, h.vv, by simp -implicitDefEqProofs [tickX]; omega, by simp -implicitDefEqProofs [tickX]; omega, by show x.a.length ≤ _; omega, by show 0 ≤ x.clock + 1; omega, by show x.clock + 1 ≤ _; omega, ?_, ?_⟩
  · intro q hq
    obtain ⟨p, hp, rfl⟩ := List.mem_map.1 (show q ∈ x.o.map (againX (x.clock + 1)) from hq)
    have := h.wt p hp
    unfold againX; split
    · simp only; omega
    · exact this
  · intro q hq
    obtain ⟨p, hp, rfl⟩ := List.mem_map.1 (show q ∈ x.o.map (againX (x.clock + 1)) from hq)
    rw [again_e]; exact h.kb p hp
theorem Bd.deliver (h : Bd vs k w x) (i : Int) : Bd vs (k + 1) (deliverW w i).2 (deliverX x i).2 := by
  have r := (h.r.deliver i).2
  obtain ⟨e1, e2, e3, e4, e5⟩ := dropX_rest x i
  have h1 := h.ol; have h2 := h.fl; have h3 := h.al; have h4 := h.ck; have h5 := h.c0
  have key : (deliverX x i).2.v = x.v ∧ ((deliverX x i).2.o.length ≤ x.o.length ∧ ∀ q ∈ (deliverX x i).2.o, q ∈ x.o) ∧ (deliverX x i).2.f.length ≤ x.f.length + 1 ∧ (deliverX x i).2.a.length ≤ x.a.length + 1 ∧ (deliverX x i).2.clock = x.clock := by
    unfold deliverX; split
    · exact ⟨rfl, ⟨Nat.le_refl _, fun q hq => hq⟩, Nat.le_succ _, Nat.le_succ _, rfl⟩
    · rename_i m hm
      simp only
      split
      · split
        · obtain ⟨f1, f2, f3, f4⟩ := forgetX_rest (dropX x i) m.ev.key
          have f5 := forgetX_len (dropX x i) m.ev.key
          exact ⟨by rw [f1, e1], ⟨by rw [← e2]; exact f5, fun q hq => by rw [← e2]; exact forgetX_sub hq⟩, by rw [f2]; omega, by rw [f3, e3]; omega, by rw [f4, e4]⟩
        · exact ⟨e1, ⟨by rw [e2]; exact Nat.le_refl _, fun q hq => by rw [← e2]; exact hq⟩, by show (dropX x i).f.length ≤ _; omega, by rw [e3]; omega, e4⟩
      · have g1 := applyX_f (dropX x i) m.ev
        have g2 := applyX_a (dropX x i) m.ev
        exact ⟨by rw [applyX_v, e1], ⟨by rw [applyX_o, e2]; exact Nat.le_refl _, fun q hq => by rw [applyX_o, e2] at hq; exact hq⟩, by simp -implicitDefEqProofs [g1]; omega, by rw [e3] at g2; exact g2, by rw [applyX_c, e4]⟩
  obtain ⟨k1, ⟨k2, k3⟩, k4, k5, k6⟩ := key
  exact ⟨r, h.on.deliver i, by rw [k1]; exact h.vl, by rw [k1]; exact h.vv, by omega, by omega, by omega, by rw [k6]; exact h5, by rw [k6]; omega, fun q hq => h.wt q (k3 q hq), fun q hq => h.kb q (k3 q hq)⟩
end
def both (c : Nat) (σ : Nat → Option AO) (w : Wire) (x : RW) (g : Gens) : Nat → Option AO := putX (putL c σ w) (c + 6) (c + 3) (c + 4) (c + 5) x g
theorem four6 (c : Nat) : Four (c + 6) (c + 3) (c + 4) (c + 5) := ⟨by omega, by omega, by omega, by omega, by omega, by omega⟩
section
variable {vs : List Int} {c k : Nat} {σ : Nat → Option AO} {w w' : Wire} {x x' : RW} {g g' : Gens}
theorem both_eq : both c σ w x g = putL c (putX σ (c + 6) (c + 3) (c + 4) (c + 5) x g) w := by
  unfold both putX
  rw [putL_upd (by omega), putL_upd (by omega), putL_upd (by omega), putL_upd (by omega)]
theorem both_w : putL c (both c σ w x g) w' = both c σ w' x g := by rw [both_eq, putL_put, ← both_eq]
theorem both_x : putX (both c σ w x g) (c + 6) (c + 3) (c + 4) (c + 5) x' g' = both c σ w x' g' := putX_put (four6 c)
theorem both_upd {n : Nat} {y : Option AO} (h : c + 7 ≤ n) : upd (both c σ w x g) n y = both c (upd σ n y) w x g := by
  unfold both
  rw [putX_upd (by omega) (by omega) (by omega) (by omega), putL_upd (by omega)]
theorem both_at {n : Nat} (h : c + 7 ≤ n) : both c σ w x g n = σ n := by
  unfold both
  rw [putX_other (by omega) (by omega) (by omega) (by omega), putL_at (by omega)]
theorem both_lt {n : Nat} (h : n < c) : both c σ w x g n = σ n := by
  unfold both
  rw [putX_other (by omega) (by omega) (by omega) (by omega), putL_lt h]
theorem Bd.isW (h : Bd vs k w x) (hk : k ≤ 200) : IsW (both c σ w x g) (c + 2) (c + 1) c w := by rw [both_eq]; exact (h.wok hk).isW c _
theorem Bd.isX (h : Bd vs k w x) (hk : k ≤ 200) : IsX (both c σ w x g) (c + 6) (c + 3) (c + 4) (c + 5) x g :=
  IsX.put (four6 c) h.vl (by have := h.ol; omega) (by have := h.fl; omega) (by have := h.al; omega) ⟨h.c0, by have := h.ck; omega⟩
theorem Bd.vw {vs : List Int} {k : Nat} {w : Wire} {x : RW} (h : Bd vs k w x) : w.values = vs := h.r.v.symm.trans h.vv
theorem bflight (h : Bd vs k w x) (hk : k ≤ 200) : CallA Try.prog 18 [.ptr (c + 2) 0] (both c σ w x g) [] fun r σ' => r = .sl (w.flight.map msgRow) ∧ σ' = both c σ w x g := call_flight18 (h.isW hk)
theorem bapplied (h : Bd vs k w x) (hk : k ≤ 200) : CallA Try.prog 20 [.ptr (c + 2) 0] (both c σ w x g) [] fun r σ' => r = .sl (w.applied.map evRow) ∧ σ' = both c σ w x g := call_applied20 (h.isW hk)
theorem ltickB {w : Wire} {c : Nat} {σ : Nat → Option AO} (h : WOk w) (hwt : ∀ p ∈ w.opens, 0 ≤ p.2.wait ∧ p.2.wait ≤ 8) (hf : w.flight.length + w.opens.length ≤ 900000) : CallA Try.prog 25 [.ptr (c + 2) 0] (putL c σ w) [] fun x σ' => x = .tup [] ∧ σ' = putL c σ (tickW w) :=
  (call_tick25 (h.isW c σ) h.keys hwt hf (by have := h.ck; omega)).mono fun x σ' ⟨h1, h2⟩ => ⟨h1, h2.trans putL_put⟩
theorem bask {e : Ev} (h : Bd vs k w x) (hk : k ≤ 200) : CallA Try.prog 17 [.ptr (c + 2) 0, evAV e] (both c σ w x g) [] fun r σ' => r = .tup [] ∧ σ' = both c σ (askW w e) x g := by
  rw [both_eq]; exact (lask (h.wok hk)).mono fun r σ' ⟨h1, h2⟩ => ⟨h1, by rw [h2, both_eq]⟩
theorem btick (h : Bd vs k w x) (hk : k ≤ 200) : CallA Try.prog 25 [.ptr (c + 2) 0] (both c σ w x g) [] fun r σ' => r = .tup [] ∧ σ' = both c σ (tickW w) x g := by
  rw [both_eq]; exact (ltickB (h.wok hk) h.wwt (by rw [h.ollen, ← h.r.f]; have := h.fl; have := h.ol; omega)).mono fun r σ' ⟨h1, h2⟩ => ⟨h1, by rw [h2, both_eq]⟩
theorem bforget {key : Int} (h : Bd vs k w x) (hk : k ≤ 200) : CallA Try.prog 24 [.ptr (c + 2) 0, .int .i64 key] (both c σ w x g) [] fun r σ' => r = .tup [] ∧ σ' = both c σ (forgetW w key) x g := by
  rw [both_eq]; exact (lforget (h.wok hk)).mono fun r σ' ⟨h1, h2⟩ => ⟨h1, by rw [h2, both_eq]⟩
theorem bcrash (h : Bd vs k w x) (hk : k ≤ 200) : CallA Try.prog 21 [.ptr (c + 2) 0] (both c σ w x g) [] fun r σ' => r = .tup [] ∧ σ' = both c σ (crashW w) x g := by
  rw [both_eq]; exact (lcrash (h.wok hk)).mono fun r σ' ⟨h1, h2⟩ => ⟨h1, by rw [h2, both_eq]⟩
theorem bdeliver {i : Int} (h : Bd vs k w x) (hk : k ≤ 200) : CallA Try.prog 19 [.ptr (c + 2) 0, .int .i64 i] (both c σ w x g) [] fun r σ' => r = .tup [evAV (deliverW w i).1.1, .bool (deliverW w i).1.2] ∧ σ' = both c σ (deliverW w i).2 x g := by
  rw [both_eq]; exact (ldeliver (h.wok hk)).mono fun r σ' ⟨h1, h2⟩ => ⟨h1, by rw [h2, both_eq]⟩
theorem bdrop {i : Int} (h : Bd vs k w x) (hk : k ≤ 200) : CallA Try.prog 22 [.ptr (c + 2) 0, .int .i64 i] (both c σ w x g) [] fun r σ' => r = .bool (inF x i) ∧ σ' = both c σ (dropW w i) x g := by
  rw [both_eq]; exact (ldrop (h.wok hk)).mono fun r σ' ⟨h1, h2⟩ => ⟨by rw [h1, inF, h.r.f], by rw [h2, both_eq]⟩
theorem btwice {i : Int} (h : Bd vs k w x) (hk : k ≤ 200) : CallA Try.prog 23 [.ptr (c + 2) 0, .int .i64 i] (both c σ w x g) [] fun r σ' => r = .bool (inF x i) ∧ σ' = both c σ (twiceW w i) x g := by
  rw [both_eq]; exact (ltwice (h.wok hk)).mono fun r σ' ⟨h1, h2⟩ => ⟨by rw [h1, inF, h.r.f], by rw [h2, both_eq]⟩
theorem xask {w0 : Wire} {e : Ev} (h : Bd vs k w x) (hk : k ≤ 200) : CallA Try.prog 44 [.ptr (c + 6) 0, evAV e] (both c σ w0 x g) [] fun r σ' => r = .tup [] ∧ ∃ g', σ' = both c σ w0 (askX x e) g' :=
  (call_xask44 (IsX.put (four6 c) h.vl (by have := h.ol; omega) (by have := h.fl; omega) (by have := h.al; omega) ⟨h.c0, by have := h.ck; omega⟩) (by have := h.fl; omega)).mono fun r σ' ⟨h1, g', h2⟩ => ⟨h1, g', h2.trans both_x⟩
theorem xforget {w0 : Wire} {key : Int} (h : Bd vs k w x) (hk : k ≤ 200) : CallA Try.prog 45 [.ptr (c + 6) 0, .int .i64 key] (both c σ w0 x g) [] fun r σ' => r = .tup [] ∧ ∃ g', σ' = both c σ w0 (forgetX x key) g' :=
  (call_xforget45 (IsX.put (four6 c) h.vl (by have := h.ol; omega) (by have := h.fl; omega) (by have := h.al; omega) ⟨h.c0, by have := h.ck; omega⟩)).mono fun r σ' ⟨h1, g', h2⟩ => ⟨h1, g', h2.trans both_x⟩
theorem xtick {w0 : Wire} (h : Bd vs k w x) (hk : k ≤ 200) : CallA Try.prog 46 [.ptr (c + 6) 0] (both c σ w0 x g) [] fun r σ' => r = .tup [] ∧ ∃ g', σ' = both c σ w0 (tickX x) g' :=
  (call_xtick46 (IsX.put (four6 c) h.vl (by have := h.ol; omega) (by have := h.fl; omega) (by have := h.al; omega) ⟨h.c0, by have := h.ck; omega⟩) (by have := h.ck; omega) (by have := h.fl; have := h.ol; omega) h.wt).mono fun r σ' ⟨h1, g', h2⟩ => ⟨h1, g', h2.trans both_x⟩
theorem xcrash {w0 : Wire} (h : Bd vs k w x) (hk : k ≤ 200) : CallA Try.prog 47 [.ptr (c + 6) 0] (both c σ w0 x g) [] fun r σ' => r = .tup [] ∧ ∃ g', σ' = both c σ w0 { x with o := [] } g' :=
  (call_xcrash47 (IsX.put (four6 c) h.vl (by have := h.ol; omega) (by have := h.fl; omega) (by have := h.al; omega) ⟨h.c0, by have := h.ck; omega⟩)).mono fun r σ' ⟨h1, g', h2⟩ => ⟨h1, g', h2.trans both_x⟩
theorem xdeliver {w0 : Wire} {i : Int} (h : Bd vs k w x) (hk : k ≤ 200) : CallA Try.prog 29 [.ptr (c + 6) 0, .int .i64 i] (both c σ w0 x g) [] fun r σ' => r = .tup [evAV (deliverW w i).1.1, .bool (deliverW w i).1.2] ∧ ∃ g', σ' = both c σ w0 (deliverX x i).2 g' :=
  (call_xdeliver29 (IsX.put (four6 c) h.vl (by have := h.ol; omega) (by have := h.fl; omega) (by have := h.al; omega) ⟨h.c0, by have := h.ck; omega⟩) (by have := h.al; omega)).mono fun r σ' ⟨h1, g', h2⟩ => ⟨by rw [h1, (h.r.deliver i).1], g', h2.trans both_x⟩
theorem xdrop {w0 : Wire} {i : Int} (h : Bd vs k w x) (hk : k ≤ 200) : CallA Try.prog 30 [.ptr (c + 6) 0, .int .i64 i] (both c σ w0 x g) [] fun r σ' => r = .bool (inF x i) ∧ ∃ g', σ' = both c σ w0 (dropX x i) g' :=
  (call_xdrop30 (IsX.put (four6 c) h.vl (by have := h.ol; omega) (by have := h.fl; omega) (by have := h.al; omega) ⟨h.c0, by have := h.ck; omega⟩)).mono fun r σ' ⟨h1, g', h2⟩ => ⟨h1, g', h2.trans both_x⟩
theorem xtwice {w0 : Wire} {i : Int} (h : Bd vs k w x) (hk : k ≤ 200) : CallA Try.prog 31 [.ptr (c + 6) 0, .int .i64 i] (both c σ w0 x g) [] fun r σ' => r = .bool (inF x i) ∧ ∃ g', σ' = both c σ w0 (twiceX x i) g' :=
  (call_xtwice31 (IsX.put (four6 c) h.vl (by have := h.ol; omega) (by have := h.fl; omega) (by have := h.al; omega) ⟨h.c0, by have := h.ck; omega⟩) (by have := h.fl; omega)).mono fun r σ' ⟨h1, g', h2⟩ => ⟨h1, g', h2.trans both_x⟩
theorem bsame (h : Bd vs k w x) (hk : k ≤ 200) : CallA Try.prog 28 [.ptr (c + 2) 0, .ptr (c + 6) 0] (both c σ w x g) [] fun r σ' => r = .bool true ∧ σ' = both c σ w x g :=
  call_same28 (h.isW hk) (h.wok hk).keys (h.isX hk) h.r.f h.r.a h.r.sorted
end
end Go.Proofs.Ytilpklkgmibpgaa
