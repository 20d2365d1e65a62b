/- Ab18: a region that draws, walked in one order; what is read is watched: it must stay as it was read, till something leans on it. -/
import Derived.Test.YtilpklkgmibpgaaAb17
namespace Go.Ab
open Go.RowKit
set_option linter.unusedVariables false
set_option linter.unusedSimpArgs false
variable {P : Program} {tt : Nat → Option TI} {r : Option Nat}

/-- What was read would be read so still. -/
def Wat (tt : Nat → Option TI) (ops : Array Oper) (pr : List Nat) (s : AS) : Prop := ∀ p, p ∈ pr → ∃ o d, ops[p]? = some o ∧ o.dst = some d ∧ YieldA tt (ops.toList.map (·.dst)) s o (s.t d)
def prune (ops : Array Oper) (j : Nat) (pr : List Nat) : List Nat := pr.filter fun p => !(depsOf ops p).contains j
def AnyW (P : Program) (tt : Nat → Option TI) (ops : Array Oper) : Nat → Array Bool → List Nat → AS → (AS → Prop) → Prop
  | 0, listed, pr, st, K => (Good st → Wat tt ops pr st) ∧ Region.ready .any ops listed = [] ∧ K st
  | f + 1, listed, pr, st, K => Good st → Wat tt ops pr st ∧ (Region.ready .any ops listed = [] → K st) ∧
      ∀ i, i ∈ Region.ready .any ops listed → ∃ o, ops[i]? = some o ∧ OpA P tt (ops.toList.map (·.dst)) st o fun s => AnyW P tt ops f (listed.setIfInBounds i true) (prune ops i pr) s K

theorem AnyW.any {ops : Array Oper} : ∀ {f : Nat} {listed : Array Bool} {pr : List Nat} {st : AS} {K : AS → Prop}, AnyW P tt ops f listed pr st K → AnyA P tt ops (ops.toList.map (·.dst)) f listed st K
  | 0, _, _, _, _, h => h.2
  | f + 1, _, _, _, _, h => fun hg => ⟨(h hg).2.1, fun i hi => by
    obtain ⟨o, h1, h2⟩ := (h hg).2.2 i hi
    exact ⟨o, h1, OpA.mono (fun s hs => AnyW.any hs) h2⟩⟩
theorem prune_sub {ops : Array Oper} {j : Nat} {pr pr' : List Nat} (h : ∀ p, p ∈ pr' → p ∈ pr) : ∀ p, p ∈ prune ops j pr' → p ∈ prune ops j pr := fun p hp => by
  simp only [prune, List.mem_filter] at hp ⊢
  exact ⟨h p hp.1, hp.2⟩
theorem AnyW.less {ops : Array Oper} : ∀ {f : Nat} {listed : Array Bool} {pr pr' : List Nat} {st : AS} {K : AS → Prop}, (∀ p, p ∈ pr' → p ∈ pr) → AnyW P tt ops f listed pr st K → AnyW P tt ops f listed pr' st K
  | 0, _, _, _, _, _, hs, h => ⟨fun hg p hp => h.1 hg p (hs p hp), h.2⟩
  | f + 1, _, _, _, _, _, hs, h => fun hg => ⟨fun p hp => (h hg).1 p (hs p hp), (h hg).2.1, fun i hi => by
    obtain ⟨o, h1, h2⟩ := (h hg).2.2 i hi
    exact ⟨o, h1, OpA.mono (fun s hs' => AnyW.less (prune_sub hs) hs') h2⟩⟩
theorem AnyW.wat {ops : Array Oper} {f : Nat} {listed : Array Bool} {pr : List Nat} {st : AS} {K : AS → Prop} (hg : Good st) (h : AnyW P tt ops f listed pr st K) : Wat tt ops pr st := by
  cases f with
  | zero => exact h.1 hg
  | succ f => exact (h hg).1

theorem YieldA.unput {ops : Array Oper} {st : AS} {o : Oper} {x y : AV} {d : Option Tmp} (hl : ∀ k, d = some k → k ∉ o.looksAt ops) (h : YieldA tt (ops.toList.map (·.dst)) (st.put d y) o x) : YieldA tt (ops.toList.map (·.dst)) st o x := by
  have hev : ∀ z ∈ o.op.operands, (st.put d y).ev z = st.ev z := fun z hz => ev_put fun k hk e => hl k hk (by
    have := hz; rw [e] at this
    exact Classical.byContradiction fun hn => looksAt_op hn this)
  have hval : valA tt (st.put d y).ev (st.put d y).σ o.op = some x → valA tt st.ev st.σ o.op = some x := fun hh => by
    rw [put_σ, valA_congr hev] at hh; exact hh
  unfold YieldA at *
  split at h
  · exact hval h
  · rename_i g want hgd
    obtain ⟨e, b, h1, h2, h3, h4⟩ := h
    have hne : d ≠ some e := fun e' => hl e e' (looksAt_guard hgd h1)
    rw [put_t hne] at h2
    exact ⟨e, b, h1, h2, fun q => hval (h3 q), h4⟩

theorem AnyW.takeG {ops : Array Oper} {i : Nat} {oi : Oper} (hi : ops[i]? = some oi) {D : List Nat} (hDD : depsOf ops i = D) {x : AV} (hself : ∀ k, oi.dst = some k → k ∉ oi.looksAt ops) : ∀ {f : Nat} {listed : Array Bool} {pr pr' : List Nat} {st : AS} {K : AS → Prop},
    i ∈ Region.ready .any ops listed → depsOk ops listed i D = true → (∀ j oj, ops[j]? = some oj → j ∉ D → listed.getD j true = false → oi.apart ops oj = true) →
    (∀ p, p ∈ pr → ∀ o, ops[p]? = some o → ∀ k, oi.dst = some k → k ∉ o.looksAt ops ∧ o.dst ≠ some k) → (pr' = pr ∨ pr' = i :: pr) →
    ((i ∈ pr' ∧ oi.dst.isSome = true) ∨ (YieldA tt (ops.toList.map (·.dst)) st oi x ∧ ∀ j oj, ops[j]? = some oj → j ∉ D → listed.getD j true = false → swOk oi oj = true)) →
    AnyW P tt ops f (listed.setIfInBounds i true) pr' (st.put oi.dst x) K → AnyW P tt ops (f + 1) listed pr st K := by
  intro f
  induction f with
  | zero =>
    intro listed pr pr' st K hr hD hap hpa hpr hk H hg
    have hsub : ∀ p, p ∈ pr → p ∈ pr' := fun p hp => by rcases hpr with e | e <;> rw [e] <;> simp [hp]
    have hw := AnyW.wat hg.put H
    have hy : YieldA tt (ops.toList.map (·.dst)) st oi x := by
      rcases hk with hk | hk
      · obtain ⟨o, d, e, e2, h⟩ := hw _ hk.1
        rw [hi] at e; cases e
        have hx : (st.put oi.dst x).t d = x := by rw [e2]; exact upd_same _ _ _
        rw [hx] at h
        exact h.unput hself
      · exact hk.1
    refine ⟨fun p hp => ?_, fun e => (by rw [e] at hr; cases hr), fun j hj => ?_⟩
    · obtain ⟨o, d, e, e2, h⟩ := hw p (hsub p hp)
      have hx : (st.put oi.dst x).t d = st.t d := put_t fun e3 => (hpa p hp o e d e3).2 e2
      rw [hx] at h
      exact ⟨o, d, e, e2, h.unput fun k hk => (hpa p hp o e k hk).1⟩
    · by_cases hji : j = i
      · subst hji
        exact ⟨oi, hi, hy.op (AnyW.less (fun p hp => hsub p (List.mem_filter.1 hp).1) H)⟩
      · have := ready_mono hj hji
        rw [H.2.1] at this
        cases this
  | succ f ih =>
    intro listed pr pr' st K hr hD hap hpa hpr hk H hg
    have hsub : ∀ p, p ∈ pr → p ∈ pr' := fun p hp => by rcases hpr with e | e <;> rw [e] <;> simp [hp]
    have hw := AnyW.wat hg.put H
    have hy : YieldA tt (ops.toList.map (·.dst)) st oi x := by
      rcases hk with hk | hk
      · obtain ⟨o, d, e, e2, h⟩ := hw _ hk.1
        rw [hi] at e; cases e
        have hx : (st.put oi.dst x).t d = x := by rw [e2]; exact upd_same _ _ _
        rw [hx] at h
        exact h.unput hself
      · exact hk.1
    refine ⟨fun p hp => ?_, fun e => (by rw [e] at hr; cases hr), fun j hj => ?_⟩
    · obtain ⟨o, d, e, e2, h⟩ := hw p (hsub p hp)
      have hx : (st.put oi.dst x).t d = st.t d := put_t fun e3 => (hpa p hp o e d e3).2 e2
      rw [hx] at h
      exact ⟨o, d, e, e2, h.unput fun k hk => (hpa p hp o e k hk).1⟩
    · by_cases hji : j = i
      · subst hji
        exact ⟨oi, hi, hy.op (AnyW.less (fun p hp => hsub p (List.mem_filter.1 hp).1) H)⟩
      · have hjD : j ∉ D := fun hd => dep_notReady hD hd hji hj
        obtain ⟨oj, hoj, h2⟩ := (H hg.put).2.2 j (ready_mono hj hji)
        have hun0 := (mem_ready.1 hj).1
        have s2 := hap j oj hoj hjD hun0
        obtain ⟨a1, a2, a3⟩ := Oper.apart_spec s2
        have hpp : prune ops j pr' = prune ops j pr ∨ prune ops j pr' = i :: prune ops j pr := by
          rcases hpr with e | e
          · exact .inl (by rw [e])
          · right
            rw [e]
            have : (!(depsOf ops i).contains j) = true := by rw [hDD]; simpa using hjD
            simp only [prune, List.filter_cons, this, if_true]
        have hstat : ∀ k ok, ops[k]? = some ok → k ∉ D → (listed.setIfInBounds j true).getD k true = false → listed.getD k true = false := fun k ok _ _ hun => by
          by_cases hjk : j = k
          · subst hjk; exact hun0
          · rw [getD_set_ne true hjk] at hun; exact hun
        refine ⟨oj, hoj, ?_⟩
        have fin : ∀ s, ((i ∈ prune ops j pr' ∧ oi.dst.isSome = true) ∨ (YieldA tt (ops.toList.map (·.dst)) s oi x ∧ ∀ k ok, ops[k]? = some ok → k ∉ D → (listed.setIfInBounds j true).getD k true = false → swOk oi ok = true)) →
            AnyW P tt ops f ((listed.setIfInBounds i true).setIfInBounds j true) (prune ops j pr') (s.put oi.dst x) K → AnyW P tt ops (f + 1) (listed.setIfInBounds j true) (prune ops j pr) s K := fun s hks hs =>
          ih (ready_mono hr (Ne.symm hji)) (depsOk_set hD hjD) (fun k ok h1 h2 h3 => hap k ok h1 h2 (hstat k ok h1 h2 h3)) (fun p hp => hpa p (List.mem_filter.1 hp).1) hpp hks (by rw [Array.setIfInBounds_comm _ _ hji]; exact hs)
        rcases hk with hk | ⟨_, hsw⟩
        · refine OpA.mono (fun s hs => fin s (.inl ⟨?_, hk.2⟩) hs) (OpA.put a1 a2 h2)
          simp only [prune, List.mem_filter]
          exact ⟨hk.1, by rw [hDD]; simpa using hjD⟩
        · refine OpA.mono ?_ (swap (hsw j oj hoj hjD hun0) s2 hg hy h2)
          rintro s ⟨hys, hs⟩
          exact fin s (.inr ⟨hys, fun k ok h1 h2 h3 => hsw k ok h1 h2 (hstat k ok h1 h2 h3)⟩) hs

/-- May this one be read now, and watched? ks: what is watched. -/
def promOk (ops : Array Oper) (listed : Array Bool) (i : Nat) (ks : List Nat) : Bool :=
  match ops[i]? with
  | none => false
  | some oi =>
    let D := depsOf ops i
    (Region.ready .any ops listed).contains i && depsOk ops listed i D &&
      ((List.range ops.size).all fun j => D.contains j || listed.getD j true || match ops[j]? with
        | some oj => oi.apart ops oj
        | none => true) &&
      (match oi.dst with
        | some k => !(oi.looksAt ops).contains k && ks.all fun p => match ops[p]? with
          | some o => !(o.looksAt ops).contains k && !(o.dst == some k)
          | none => true
        | none => true)
def swAll (ops : Array Oper) (listed : Array Bool) (i : Nat) : Bool :=
  match ops[i]? with
  | none => false
  | some oi => (List.range ops.size).all fun j => (depsOf ops i).contains j || listed.getD j true || match ops[j]? with
    | some oj => swOk oi oj
    | none => true
theorem promOk_spec {ops : Array Oper} {listed : Array Bool} {i : Nat} {pr : List Nat} {oi : Oper} (hi : ops[i]? = some oi) (h : promOk ops listed i pr = true) :
    i ∈ Region.ready .any ops listed ∧ depsOk ops listed i (depsOf ops i) = true ∧ (∀ j oj, ops[j]? = some oj → j ∉ depsOf ops i → listed.getD j true = false → oi.apart ops oj = true) ∧
      (∀ k, oi.dst = some k → k ∉ oi.looksAt ops) ∧ ∀ p, p ∈ pr → ∀ o, ops[p]? = some o → ∀ k, oi.dst = some k → k ∉ o.looksAt ops ∧ o.dst ≠ some k := by
  unfold promOk at h
  rw [hi] at h
  simp only [Bool.and_eq_true, List.all_eq_true, List.mem_range, Bool.or_eq_true] at h
  obtain ⟨⟨⟨h1, h2⟩, h3⟩, h4⟩ := h
  refine ⟨by simpa using h1, h2, fun j oj hoj hjD hun => ?_, fun k hk => ?_, fun p hp o ho k hk => ?_⟩
  · have := h3 j (Array.getElem?_eq_some_iff.1 hoj).1
    rw [hoj] at this
    rcases this with (q | q) | q
    · exact absurd (by simpa using q) hjD
    · rw [hun] at q; cases q
    · exact q
  · rw [hk] at h4
    simp only [Bool.and_eq_true, Bool.not_eq_true', List.contains_eq_mem, decide_eq_false_iff_not] at h4
    exact h4.1
  · rw [hk] at h4
    simp only [Bool.and_eq_true, List.all_eq_true, Bool.not_eq_true', List.contains_eq_mem, decide_eq_false_iff_not] at h4
    have := h4.2 p hp
    rw [ho] at this
    simpa using this
/-- Something is read; it is watched. -/
theorem AnyW.read {ops : Array Oper} (i : Nat) {oi : Oper} {f : Nat} {listed : Array Bool} {pr : List Nat} {st : AS} {x : AV} {K : AS → Prop} (hi : ops[i]? = some oi) (hok : promOk ops listed i pr = true) (hd : oi.dst.isSome = true)
    (H : AnyW P tt ops f (listed.setIfInBounds i true) (i :: pr) (st.put oi.dst x) K) : AnyW P tt ops (f + 1) listed pr st K := by
  obtain ⟨h1, h2, h3, h4, h5⟩ := promOk_spec hi hok
  exact AnyW.takeG hi rfl h4 h1 h2 h3 h5 (.inr rfl) (.inl ⟨List.mem_cons_self .., hd⟩) H
theorem AnyW.readX {ops : Array Oper} (i : Nat) {oi : Oper} {f : Nat} {listed : Array Bool} {pr : List Nat} {st : AS} {x : AV} {K : AS → Prop} (hi : ops[i]? = some oi) (hok : promOk ops listed i pr = true) (hd : oi.dst.isSome = true) (hx : valA tt st.ev st.σ oi.op = some x)
    (H : AnyW P tt ops f (listed.setIfInBounds i true) (i :: pr) (st.put oi.dst x) K) : AnyW P tt ops (f + 1) listed pr st K := AnyW.read i hi hok hd H
/-- Something whose value can't turn. -/
theorem AnyW.take {ops : Array Oper} (i : Nat) {oi : Oper} {f : Nat} {listed : Array Bool} {pr : List Nat} {st : AS} {x : AV} {K : AS → Prop} (hi : ops[i]? = some oi) (hok : promOk ops listed i pr = true) (hsw : swAll ops listed i = true)
    (hg : oi.guard = none) (hx : valA tt st.ev st.σ oi.op = some x) (H : AnyW P tt ops f (listed.setIfInBounds i true) pr (st.put oi.dst x) K) : AnyW P tt ops (f + 1) listed pr st K := by
  obtain ⟨h1, h2, h3, h4, h5⟩ := promOk_spec hi hok
  refine AnyW.takeG hi rfl h4 h1 h2 h3 h5 (.inl rfl) (.inr ⟨by unfold YieldA; rw [hg]; exact hx, fun j oj hoj hjD hun => ?_⟩) H
  unfold swAll at hsw
  rw [hi] at hsw
  simp only [List.all_eq_true, List.mem_range, Bool.or_eq_true] at hsw
  have := hsw j (Array.getElem?_eq_some_iff.1 hoj).1
  rw [hoj] at this
  rcases this with (q | q) | q
  · exact absurd (by simpa using q) hjD
  · rw [hun] at q; cases q
  · exact q
/-- The one that can come now. -/
theorem AnyW.op {ops : Array Oper} (i : Nat) {oi : Oper} {f : Nat} {listed : Array Bool} {pr : List Nat} {st : AS} {K : AS → Prop} (hi : ops[i]? = some oi) (hr : (Region.ready .any ops listed == [i]) = true) (pr' : List Nat) (hpr : (prune ops i pr == pr') = true) (hw : Wat tt ops pr st)
    (H : OpA P tt (ops.toList.map (·.dst)) st oi fun s => AnyW P tt ops f (listed.setIfInBounds i true) pr' s K) : AnyW P tt ops (f + 1) listed pr st K := fun hg => by
  have e0 : prune ops i pr = pr' := by simpa using hpr
  rw [← e0] at H
  have e : Region.ready .any ops listed = [i] := by simpa using hr
  refine ⟨hw, fun h => (by rw [e] at h; cases h), fun j hj => ?_⟩
  rw [e] at hj
  simp at hj
  subst hj
  exact ⟨oi, hi, H⟩
theorem AnyW.done {ops : Array Oper} {listed : Array Bool} {pr : List Nat} {st : AS} {K : AS → Prop} (hr : (Region.ready .any ops listed).isEmpty = true) (hw : Wat tt ops pr st) (h : K st) : AnyW P tt ops 0 listed pr st K := ⟨fun _ => hw, by simpa using hr, h⟩
theorem Wat.nil {ops : Array Oper} {s : AS} : Wat tt ops [] s := fun _ h => by cases h
theorem Wat.cons {ops : Array Oper} {s : AS} {i : Nat} {pr : List Nat} {o : Oper} {d : Nat} (hi : ops[i]? = some o) (hd : o.dst = some d) (hg : o.guard = none) (hx : valA tt s.ev s.σ o.op = some (s.t d)) (h : Wat tt ops pr s) : Wat tt ops (i :: pr) s := fun p hp => by
  rcases List.mem_cons.1 hp with rfl | hp
  · exact ⟨o, d, hi, hd, by unfold YieldA; rw [hg]; exact hx⟩
  · exact h p hp
theorem Tri.drawW (ht : TTok P tt) (hmix : P.follows .mixedOrders = true) {id : Nat} {l : List Oper} {st : AS} {Q : Exit → AS → Prop} (hd : dstOk st.m l = true)
    (h : AnyW P tt l.toArray l.length (Array.replicate l.length false) [] st (Q .normal)) : Tri r P (.region id l.toArray true) st Q := Tri.draw ht hmix hd h.any
end Go.Ab
