/- Ab17: a range over a function: a round, out of the loop's body; the statement; a function's contract where its body holds one. -/
import Derived.Test.YtilpklkgmibpgaaAb16
namespace Go.Ab
open Go.RowKit
set_option linter.unusedVariables false
set_option linter.unusedSimpArgs false
variable {P : Program} {tt : Nat → Option TI} {r : Option Nat}

/-- A name's block is written whole; what the name stands for is told anew. -/
theorem putN {w : World} {φ : Nat → Ref} {σ : Nat → Option AO} (hs : SRel ⟨w, φ, σ⟩) {n b : Nat} {y0 : AO} {o : Obj} (y : AO) (hn : σ n = some y0) (hb : φ n = .blk b) (hlt : b < w.heap.size)
    (hy : Ext ⟨w, φ, σ⟩ ⟨w.putObj b o, φ, upd σ n (some y)⟩ → ORel ⟨w.putObj b o, φ, upd σ n (some y)⟩ n y) : SRel ⟨w.putObj b o, φ, upd σ n (some y)⟩ ∧ Ext ⟨w, φ, σ⟩ ⟨w.putObj b o, φ, upd σ n (some y)⟩ := by
  have hold : oldAt φ σ n = some b := by simp [oldAt, hn, hb, Ref.at]
  have hφ : upd φ n (.blk b) = φ := upd_self φ n hb
  have hk : ∀ k, k < w.heap.size → oldAt φ σ n ≠ some k → (w.putObj b o).heap[k]? = w.heap[k]? := fun k _ hne => by
    rw [hold] at hne
    exact World.putObj_heap_other (fun e => hne (by rw [e]))
  have hx := Ext.turn (w := w) (w' := w.putObj b o) (φ := φ) (σ := σ) (n := n) (ρ := .blk b) y (by simp) rfl rfl rfl (by rw [hb]; exact Ref.le_refl _) hk (fun b' e => .inl (by cases e; exact hold))
  rw [hφ] at hx
  have h2 := SRel.turn (w' := w.putObj b o) hs (n := n) (ρ := .blk b) (y := y) (by simp) rfl rfl rfl (by rw [hb]; exact Ref.le_refl _) hk (fun b' e => .inl (by cases e; exact hold)) (by rw [hφ]; exact hy hx)
  rw [hφ] at h2
  exact ⟨h2, hx⟩
/-- What a name stands for is told otherwise. -/
theorem retell {w : World} {φ : Nat → Ref} {σ : Nat → Option AO} (hs : SRel ⟨w, φ, σ⟩) {n b : Nat} {y0 : AO} (y : AO) (hn : σ n = some y0) (hb : φ n = .blk b)
    (hy : Ext ⟨w, φ, σ⟩ ⟨w, φ, upd σ n (some y)⟩ → ORel ⟨w, φ, upd σ n (some y)⟩ n y) : SRel ⟨w, φ, upd σ n (some y)⟩ ∧ Ext ⟨w, φ, σ⟩ ⟨w, φ, upd σ n (some y)⟩ := by
  have hold : oldAt φ σ n = some b := by simp [oldAt, hn, hb, Ref.at]
  have hφ : upd φ n (.blk b) = φ := upd_self φ n hb
  have hx := Ext.turn (w := w) (w' := w) (φ := φ) (σ := σ) (n := n) (ρ := .blk b) y (Nat.le_refl _) rfl rfl rfl (by rw [hb]; exact Ref.le_refl _) (fun _ _ _ => rfl) (fun b' e => .inl (by cases e; exact hold))
  rw [hφ] at hx
  have h2 := SRel.turn (w' := w) hs (n := n) (ρ := .blk b) (y := y) (Nat.le_refl _) rfl rfl rfl (by rw [hb]; exact Ref.le_refl _) (fun _ _ _ => rfl) (fun b' e => .inl (by cases e; exact hold)) (by rw [hφ]; exact hy hx)
  rw [hφ] at h2
  exact ⟨h2, hx⟩

/-- yield's parameters, set. -/
def setPs : List Nat → List AV → (Nat → AV) → Nat → AV
  | p :: ps, x :: xs, t => setPs ps xs (upd t p x)
  | _, _, t => t
theorem setPs_rel {R : Env} : ∀ {ps : List Nat} {xs : List AV} {vs : List Value} {t : Nat → AV} {tmps : Array Value}, LRel R xs vs → xs.length = ps.length → (∀ i, VRel R (t i) (tmps.getD i undef)) → (∀ p, p ∈ ps → p < tmps.size) →
    (∀ i, VRel R (setPs ps xs t i) (((ps.zip vs).foldl (fun (tmps : Array Value) (p : Nat × Value) => tmps.setIfInBounds p.1 p.2) tmps).getD i undef)) ∧ ((ps.zip vs).foldl (fun (tmps : Array Value) (p : Nat × Value) => tmps.setIfInBounds p.1 p.2) tmps).size = tmps.size
  | [], [], vs, t, tmps, _, _, h, _ => by simpa [setPs] using h
  | [], _ :: _, _, _, _, _, hl, _, _ => by simp at hl
  | _ :: _, [], _, _, _, _, hl, _, _ => by simp at hl
  | p :: ps, x :: xs, _, t, tmps, hv, hl, h, hp => by
    obtain ⟨v, vs', rfl, h1, h2⟩ := hv
    have hps := hp p (by simp)
    have := setPs_rel (ps := ps) (xs := xs) (vs := vs') (t := upd t p x) (tmps := tmps.setIfInBounds p v) h2 (by simpa using hl) (fun i => by
      by_cases e : i = p
      · subst e; rw [upd_same]
        rw [Array.getD_eq_getD_getElem?, Array.getElem?_setIfInBounds_self_of_lt hps]; exact h1
      · rw [upd_ne _ _ e, Array.getD_eq_getD_getElem?, Array.getElem?_setIfInBounds_ne (Ne.symm e), ← Array.getD_eq_getD_getElem?]; exact h i) (fun q hq => by simpa using hp q (by simp [hq]))
    refine ⟨by simpa [setPs] using this.1, by simpa using this.2⟩

/-- How a round may be left: the pending jump. -/
def jumpOf : Exit → Option (Option Code)
  | .normal => some none
  | .ret => some (some .ret)
  | .exit id => some (some (.exit id))
  | .goto t => some (some (.goto t))
  | _ => none
def roundQ (n : Nat) (rec : Loop) (c : Nat) (σ : Nat → Option AO) (Q : Option Code → (Nat → Option AO) → Prop) : Exit → AS → Prop := fun e s =>
  ∃ j, jumpOf e = some j ∧ ∃ s', Gh s s' ∧ s'.σ n = some (.raw (.loop rec)) ∧ Stays c σ s'.σ ∧ Q j (cutσ c s'.σ)
def startR (ps : List Nat) (args t : List AV) (σ : Nat → Option AO) (c : Nat) (Ns : List Nat) : AS := { t := setPs ps args fun i => t.getD i .junk, σ := σ, c := c, fr := Ns, m := t.length, ds := [] }
def afterR (ps : List Nat) (asg body : Code) (t : List AV) (nd : Nat) : Option Code → AO
  | none => .loop ps asg body t nd
  | some j => .loopD j

/-- **A round**: its body, walked in a state of its own, on the slots that the loop's record keeps. -/
theorem RoundA.of {n : Nat} {ps : List Nat} {asg body : Code} {t : List AV} {nd : Nat} {args : List AV} {σ : Nat → Option AO} {Ns : List Nat} {Q : Option Code → (Nat → Option AO) → Prop}
    (hn : σ n = some (.loop ps asg body t nd)) (ha : args.length = ps.length) (hp : ∀ p, p ∈ ps → p < t.length)
    (h : ∀ c r rec, Facts (startR ps args t (upd σ n (some (.raw (.loop rec)))) c Ns) → Tri r P asg (startR ps args t (upd σ n (some (.raw (.loop rec)))) c Ns)
      (thenQ (fun s1 => s1.σ n = some (.raw (.loop rec)) ∧ ∀ rec', Tri r P body (s1.withσ (upd s1.σ n (some (.raw (.loop rec')))) s1.fr) (roundQ n rec' c σ Q)) fun _ _ => False)) :
    RoundA P n args σ Ns fun x σ' => ∃ j s, Q j s ∧ x = .bool j.isNone ∧ σ' = upd s n (some (afterR ps asg body t nd j)) := by
  intro c w φ vs b hb hvs hs hfr hNs
  obtain ⟨b', rec, h1, h2, h3, h4, h5, h6, h7, h8, h9⟩ := hs.obj n _ hn
  replace h1 : φ n = .blk b' := h1
  replace h9 : φ nd = .blk rec.defers := h9
  rw [hb] at h1; cases h1
  have hnc : n < c := Nat.lt_of_not_le fun hle => by have := hfr n hle; rw [hb] at this; cases this
  have hndc : nd < c := Nat.lt_of_not_le fun hle => by have := hfr nd hle; rw [h9] at this; cases this
  have hlt : b < w.heap.size := (Array.getElem?_eq_some_iff.1 h2).1
  have hvl := hvs.length
  have hpl : rec.params.size = ps.length := by rw [← h5]; simp
  have htl : rec.tmps.size = t.length := by have := h8.length; simpa using this
  refine ⟨rec.fn, _, rec.assign, rec.body, run_yield h2 (by simp; omega), roundIn_of_wpIn trivial ?_⟩
  rw [h6, h7]
  obtain ⟨hs1, hx1⟩ := retell hs (.raw (.loop rec)) hn hb fun _ => ⟨b, hb, h2⟩
  have hfold : (rec.params.zip vs.toArray).foldl (fun (tmps : Array Value) (x : Tmp × Value) => match x with | (t, a) => tmps.setIfInBounds t a) rec.tmps = (ps.zip vs).foldl (fun (tmps : Array Value) (p : Nat × Value) => tmps.setIfInBounds p.1 p.2) rec.tmps := by
    rw [← Array.foldl_toList, Array.toList_zip, h5]
  obtain ⟨sl1, sl2⟩ := setPs_rel (R := ⟨w, φ, upd σ n (some (.raw (.loop rec)))⟩) (ps := ps) (xs := args) (vs := vs) (t := fun i => t.getD i .junk) (tmps := rec.tmps) (LRel.mono hx1 _ _ hvs) ha (fun i => by
    by_cases hi : i < t.length
    · obtain ⟨v, k1, k2⟩ := LRel.get i h8 (List.getElem?_eq_getElem hi)
      have : rec.tmps.getD i undef = v := by
        rw [Array.getD_eq_getD_getElem?, ← Array.getElem?_toList, k1]; rfl
      rw [this]
      simp only [List.getD_eq_getElem?_getD, List.getElem?_eq_getElem hi, Option.getD_some]
      exact VRel.mono hx1 _ _ k2
    · simp only [List.getD_eq_getElem?_getD, List.getElem?_eq_none (Nat.le_of_not_lt hi), Option.getD_none]; trivial) (fun p hpp => by rw [htl]; exact hp p hpp)
  have hr : CRel (startR ps args t (upd σ n (some (.raw (.loop rec)))) c Ns) { tmps := (rec.params.zip vs.toArray).foldl (fun (tmps : Array Value) (x : Tmp × Value) => match x with | (t, a) => tmps.setIfInBounds t a) rec.tmps, defers := [] } w φ :=
    ⟨fun i => by show VRel _ _ (Array.getD _ i undef); simp only [hfold]; exact sl1 i, by show Array.size _ = t.length; simp only [hfold]; rw [sl2, htl], rfl, hs1, hfr, hNs⟩
  refine wpIn_mono (h c (some b) rec hr.facts _ w φ hr) ?_
  rintro e a1 w1 ⟨s1, φ1, q1, q2, q3⟩
  cases e with
  | normal =>
    obtain ⟨hσ1, hbody⟩ := q1
    obtain ⟨b1, k1, k2⟩ := q2.store.obj n _ hσ1
    have kb : φ1 n = .blk b := q3.ext.set hb
    replace k1 : φ1 n = .blk b1 := k1
    rw [kb] at k1; cases k1
    replace k2 : w1.heap[b]? = some (.loop rec) := k2
    have hlt1 : b < w1.heap.size := (Array.getElem?_eq_some_iff.1 k2).1
    refine ⟨w1.putObj b (.loop { rec with state := .busy }), run_beginRound k2 h3, ?_⟩
    obtain ⟨hs2, hx2⟩ := putN (o := .loop { rec with state := .busy }) q2.store (.raw (.loop { rec with state := .busy })) hσ1 kb hlt1 fun _ => ⟨b, kb, World.putObj_heap_same hlt1⟩
    have hr2 : CRel (s1.withσ (upd s1.σ n (some (.raw (.loop { rec with state := .busy })))) s1.fr) a1 (w1.putObj b (.loop { rec with state := .busy })) φ1 :=
      ⟨fun i => VRel.mono hx2 _ _ (q2.slot i), q2.size, q2.defers, hs2, q2.fresh, q2.free⟩
    refine wpIn_mono (hbody _ _ _ φ1 hr2) ?_
    rintro e a3 w3 ⟨s3, φ3, ⟨j, hj, s4, hg, hσ4, hst, hQ⟩, q6, q7⟩
    obtain ⟨φ4, hr4, hev4⟩ := hg _ _ _ q6
    have hevo2 : Evo s1 w1 φ1 (s1.withσ (upd s1.σ n (some (.raw (.loop { rec with state := .busy })))) s1.fr) (w1.putObj b (.loop { rec with state := .busy })) φ1 := ⟨hx2, Nat.le_refl _, fun _ h _ => h, fun _ _ _ e => e⟩
    have hevo := ((q3.trans hevo2).trans q7).trans hev4
    have hx := hx1.trans hevo.ext
    have fin : ∃ v w', (Instr.endRound b j).run P w3 = .ok v w' ∧ ∃ v' x σ' φ', Ending.returned v = .returned v' ∧ VRel ⟨w', φ', σ'⟩ x v' ∧ (∃ j s, Q j s ∧ x = .bool j.isNone ∧ σ' = upd s n (some (afterR ps asg body t nd j))) ∧ SRel ⟨w', φ', σ'⟩ ∧ (∀ n, c ≤ n → φ' n = .unset) ∧
        (∀ n, n < c → n ∉ Ns → φ n = .unset → φ' n = .unset) ∧ Ext ⟨w, φ, σ⟩ ⟨w', φ', σ'⟩ := by
      obtain ⟨b4, m1, m2⟩ := hr4.store.obj n _ hσ4
      have mb : φ4 n = .blk b := hevo.ext.set hb
      replace m1 : φ4 n = .blk b4 := m1
      rw [mb] at m1; cases m1
      replace m2 : w3.heap[b]? = some (.loop { rec with state := .busy }) := m2
      have hlt3 : b < w3.heap.size := (Array.getElem?_eq_some_iff.1 m2).1
      obtain ⟨c1, c2, c3, c4⟩ := cut_all (c := c) (R0 := ⟨w, φ, σ⟩) (σ' := cutσ c s4.σ) hfr hs hx hr4.store (fun m o hm => by
        simp only [cutσ] at hm
        split at hm
        · rename_i hl; exact ⟨hl, hm, hst m o hl hm⟩
        · cases hm) (x := .bool j.isNone) (v := .bool j.isNone) trivial rfl
      have hcn : cutσ c s4.σ n = some (.raw (.loop { rec with state := .busy })) := by simp [cutσ, hnc, hσ4]
      have hcb : cutφ c φ4 n = .blk b := (cutφ_lt φ4 hnc).trans mb
      have key := putN (o := .loop { rec with state := (if j.isNone then .ready else .done), pending := j }) c2 (afterR ps asg body t nd j) hcn hcb hlt3 fun hxx => by
        cases j with
        | none => exact ⟨b, _, hcb, World.putObj_heap_same hlt3, rfl, rfl, h5, h6, h7, LRel.mono (c4.trans hxx) _ _ h8, (c4.trans hxx).set h9⟩
        | some j => exact ⟨b, _, hcb, World.putObj_heap_same hlt3, rfl, rfl⟩
      refine ⟨_, _, run_endRound j m2, .bool j.isNone, .bool j.isNone, _, cutφ c φ4, rfl, rfl, ⟨j, _, hQ, rfl, rfl⟩, key.1, c3, fun m h1 h2 h3 => ?_, c4.trans key.2⟩
      rw [cutφ_lt _ h1]
      exact hevo.unset m h1 h2 h3
    cases e with
    | normal => cases hj; exact fin
    | ret => cases hj; exact fin
    | exit id => cases hj; exact fin
    | goto t => cases hj; exact fin
    | panic ch => cases hj
    | outgrown => cases hj
  | exit id => exact q1.elim
  | goto l => exact q1.elim
  | ret => exact q1.elim
  | panic ch => exact q1.elim
  | outgrown => exact q1.elim

/-- A new block for a new name. -/
theorem newN {w : World} {φ : Nat → Ref} {σ : Nat → Option AO} (hs : SRel ⟨w, φ, σ⟩) {nm : Nat} (hn : φ nm = .unset) (o : Obj) (y : AO)
    (hy : Ext ⟨w, φ, σ⟩ ⟨w.alloc o, upd φ nm (.blk w.heap.size), upd σ nm (some y)⟩ → ORel ⟨w.alloc o, upd φ nm (.blk w.heap.size), upd σ nm (some y)⟩ nm y) :
    SRel ⟨w.alloc o, upd φ nm (.blk w.heap.size), upd σ nm (some y)⟩ ∧ Ext ⟨w, φ, σ⟩ ⟨w.alloc o, upd φ nm (.blk w.heap.size), upd σ nm (some y)⟩ := by
  have hx := Ext.turn (w := w) (w' := w.alloc o) (φ := φ) (σ := σ) (n := nm) (ρ := .blk w.heap.size) y (by simp) rfl rfl rfl (by rw [hn]; trivial) (fun k hk _ => Below.heap_alloc w _ k hk) (fun b e => .inr (by cases e; exact Nat.le_refl _))
  exact ⟨SRel.turn hs (by simp) rfl rfl rfl (by rw [hn]; trivial) (fun k hk _ => Below.heap_alloc w _ k hk) (fun b e => .inr (by cases e; exact Nat.le_refl _)) (hy hx), hx⟩

/-- **The statement 'for .. := range f { .. }'**, where it stands in no round. -/
theorem Tri.rangeFunc {g : Operand} {ps : Array Tmp} {asg body : Code} {st : AS} {Q : Exit → AS → Prop} (nl nd : Nat) {k : FuncId} {fs cs : List AV} {Ns : List Nat} {Qc : AO → AV → (Nat → Option AO) → Prop}
    (hnl : nl ∈ st.fr) (hnd : nd ∈ st.fr) (hne : nl ≠ nd) (hg : st.ev g = .fn (.func k) fs cs) (hk : okFn P k = true) (t : List AV) (ht : t.length = st.m) (htw : ∀ i x, t[i]? = some x → Wk (st.t i) x)
    (hc : CallA P k (fs ++ [.yld nl] ++ cs) (upd (upd st.σ nd (some (.raw (.deferred (some []))))) nl (some (.loop ps.toList asg body t nd))) Ns (Qc (.loop ps.toList asg body t nd))) (hNs : ∀ n, n ∈ Ns → n ∈ st.fr ∧ n ≠ nl ∧ n ≠ nd)
    (h : ∀ x σ', Qc (.loop ps.toList asg body t nd) x σ' → ∃ j, σ' nl = some (afterR ps.toList asg body t nd j) ∧ match j with
      | none => Q .normal { st with σ := upd σ' nl none, fr := st.fr.filter fun n => n != nl && n != nd && !Ns.contains n, ds := nd :: st.ds }
      | some c => Tri none P c { st with σ := upd σ' nl none, fr := st.fr.filter fun n => n != nl && n != nd && !Ns.contains n, ds := nd :: st.ds } Q) : Tri none P (.rangeFunc g ps asg body) st Q := by
  intro a w φ hr
  refine wpIn_rangeFunc fun fn _ => ?_
  obtain ⟨l1, u1⟩ := hr.free nl hnl
  obtain ⟨l2, u2⟩ := hr.free nd hnd
  obtain ⟨hs1, hx1⟩ := newN hr.store u2 (.deferred (some [])) (.raw (.deferred (some []))) fun _ => ⟨_, upd_same _ _ _, heap_alloc_new w _⟩
  have u1' : upd φ nd (.blk w.heap.size) nl = .unset := by rw [upd_ne _ _ hne]; exact u1
  obtain ⟨w1, hw1⟩ : ∃ w1, w.alloc (.deferred (some [])) = w1 := ⟨_, rfl⟩
  rw [hw1] at hs1 hx1
  have hsz1 : w1.heap.size = w.heap.size + 1 := by rw [← hw1]; simp
  obtain ⟨rec, hrec⟩ : ∃ rec : Loop, rec = { state := .ready, pending := none, fn, tmps := a.tmps, params := ps, assign := asg, body := body, defers := w.heap.size } := ⟨_, rfl⟩
  obtain ⟨hs2, hx2⟩ := newN hs1 u1' (.loop rec) (.loop ps.toList asg body t nd) fun hxx => by
    refine ⟨_, rec, upd_same _ _ _, heap_alloc_new w1 _, by rw [hrec], by rw [hrec], by rw [hrec], by rw [hrec], by rw [hrec], ?_, ?_⟩
    · have htm : rec.tmps = a.tmps := by rw [hrec]
      rw [htm]
      refine LRel.of_get (by simp [ht, hr.size]) fun i x v e1 e2 => ?_
      have hv := VRel.mono (hx1.trans hxx) _ _ (hr.slot i)
      have : a.tmps.getD i undef = v := by
        rw [Array.getD_eq_getD_getElem?, ← Array.getElem?_toList, e2]; rfl
      rw [this] at hv
      exact htw i x e1 _ _ hv
    · have htm : rec.defers = w.heap.size := by rw [hrec]
      rw [htm]
      show upd (upd φ nd _) nl _ nd = _
      rw [upd_ne _ _ hne.symm, upd_same]
  have hx := hx1.trans hx2
  have hev := hr.ev g
  rw [hg] at hev
  obtain ⟨fs', cs', hval, hfs, hcs⟩ := hev
  have hl : (Instr.enterLoop fn a.tmps ps asg body (fen none).round).run P w = .ok (w.heap.size + 1, [{ target := .collected w.heap.size, args := #[] }]) (w1.alloc (.loop rec)) := by
    rw [hrec, ← hw1]; exact run_enterLoop_outer fn a.tmps ps asg body
  refine ⟨_, _, _, { target := .fn (.func k) cs', args := fs' ++ #[.func (.yield (w.heap.size + 1)) #[] #[]] }, w1.alloc (.loop rec), k, (fs' ++ #[Value.func (.yield (w.heap.size + 1)) #[] #[]]) ++ cs', w1.alloc (.loop rec), hl, ?_, fun _ _ => trivial, ?_, fun hh => by simp [fen] at hh, ?_⟩
  · simp only [rangeCall, resolve, hval, Deferred.ofValue, show ∀ v, a.eval (.const v) = v from fun _ => rfl]
    simp [hval, Deferred.ofValue, show ∀ v, a.eval (.const v) = v from fun _ => rfl]
  · exact okFn_run hk ((fs' ++ #[Value.func (.yield (w.heap.size + 1)) #[] #[]]) ++ cs') (w1.alloc (.loop rec))
  · have hargs : LRel ⟨w1.alloc (.loop rec), upd (upd φ nd (.blk w.heap.size)) nl (.blk w1.heap.size), upd (upd st.σ nd (some (.raw (.deferred (some []))))) nl (some (.loop ps.toList asg body t nd))⟩ (fs ++ [.yld nl] ++ cs) (fs'.toList ++ [Value.func (.yield (w.heap.size + 1)) #[] #[]] ++ cs'.toList) :=
      LRel.append (LRel.append (LRel.mono hx _ _ hfs) ⟨_, [], rfl, ⟨w1.heap.size, upd_same _ _ _, by rw [hsz1]⟩, rfl⟩) (LRel.mono hx _ _ hcs)
    have hφ : ∀ n, n ≠ nl → n ≠ nd → upd (upd φ nd (.blk w.heap.size)) nl (.blk w1.heap.size) n = φ n := fun n h1 h2 => by rw [upd_ne _ _ h1, upd_ne _ _ h2]
    have hcall := hc st.c _ _ _ hargs hs2 (fun n hn => by rw [hφ n (by omega) (by omega)]; exact hr.fresh n hn) (fun n hn => by
      obtain ⟨q1, q2, q3⟩ := hNs n hn
      rw [hφ n q2 q3]; exact hr.free n q1)
    have e3 : (fs'.toList ++ [Value.func (.yield (w.heap.size + 1)) #[] #[]] ++ cs'.toList).toArray = (fs' ++ #[Value.func (.yield (w.heap.size + 1)) #[] #[]]) ++ cs' := by simp
    rw [e3] at hcall
    refine CallsIn.mono (F := fen none) (show CallsIn (fen none) 0 P k _ _ _ from hcall) ?_
    rintro e w' ⟨v, x, σ', φ', rfl, hv, hq, hs', hf', hun, hx'⟩
    obtain ⟨j, hj, hgo⟩ := h x σ' hq
    have hb : φ' nl = .blk w1.heap.size := hx'.set (upd_same _ _ _)
    have hd : φ' nd = .blk w.heap.size := hx'.set (n := nd) (by show upd _ nl _ nd = _; rw [upd_ne _ _ hne.symm, upd_same])
    obtain ⟨rec', hh1, hh2, hh3⟩ : ∃ rec' : Loop, w'.heap[w1.heap.size]? = some (.loop rec') ∧ rec'.state ≠ .busy ∧ rec'.pending = j := by
      have ho := hs'.obj nl _ hj
      cases j with
      | none =>
        obtain ⟨b, rec', k1, k2, k3, k4, _⟩ := ho
        replace k1 : φ' nl = .blk b := k1
        rw [hb] at k1; cases k1
        exact ⟨rec', k2, by rw [k3]; simp, k4⟩
      | some j =>
        obtain ⟨b, rec', k1, k2, k3, k4⟩ := ho
        replace k1 : φ' nl = .blk b := k1
        rw [hb] at k1; cases k1
        exact ⟨rec', k2, by rw [k3]; simp, k4⟩
    have hlt : w1.heap.size < w'.heap.size := (Array.getElem?_eq_some_iff.1 hh1).1
    obtain ⟨hs3, hx3⟩ := putN (o := .loop { rec' with state := .exhausted }) hs' (.raw (.loop { rec' with state := .exhausted })) hj hb hlt fun _ => ⟨_, hb, World.putObj_heap_same hlt⟩
    have hs4 := SRel.kill hs3 nl
    have hx4 := hx3.trans (Ext.kill nl)
    rw [upd_idem] at hs4 hx4
    have hX := hx.trans (hx'.trans hx4)
    rw [hsz1] at hh1 hx4 hX hs4
    refine ⟨j, _, by rw [← hh3]; exact run_endLoop hh1 hh2, ?_⟩
    have hC : CRel { st with σ := upd σ' nl none, fr := st.fr.filter fun n => n != nl && n != nd && !Ns.contains n, ds := nd :: st.ds } { a with defers := [{ target := .collected w.heap.size, args := #[] }] ++ a.defers } (w'.putObj (w.heap.size + 1) (.loop { rec' with state := .exhausted })) φ' := by
      refine ⟨fun i => VRel.mono hX _ _ (hr.slot i), hr.size, ⟨_, _, hd, rfl, marks.mono hX hr.defers⟩, hs4, hf', fun n hn => ?_⟩
      simp only [List.mem_filter, Bool.and_eq_true, bne_iff_ne, ne_eq, Bool.not_eq_true', List.contains_eq_mem, decide_eq_false_iff_not] at hn
      obtain ⟨h1, ⟨h2, h3⟩, h4⟩ := hn
      exact ⟨(hr.free n h1).1, hun n (hr.free n h1).1 h4 (by rw [hφ n h2 h3]; exact (hr.free n h1).2)⟩
    have hE : Evo st w φ { st with σ := upd σ' nl none, fr := st.fr.filter fun n => n != nl && n != nd && !Ns.contains n, ds := nd :: st.ds } (w'.putObj (w.heap.size + 1) (.loop { rec' with state := .exhausted })) φ' := by
      refine ⟨hX, Nat.le_refl _, fun n hn _ => (List.mem_filter.1 hn).1, fun n h1 h2 h3 => ?_⟩
      exact hun n h1 (fun e => h2 (hNs n e).1) (by rw [hφ n (fun e => h2 (e ▸ hnl)) (fun e => h2 (e ▸ hnd))]; exact h3)
    cases j with
    | none => exact ⟨_, _, hgo, hC, hE⟩
    | some c => exact wpIn_mono (hgo _ _ _ hC) fun e a2 w2 ⟨st2, φ2, p1, p2, p3⟩ => ⟨st2, φ2, p1, p2, hE.trans p3⟩

/-! ### A function whose body holds such a statement -/
def killL (σ : Nat → Option AO) (ns : List Nat) : Nat → Option AO := fun m => if m ∈ ns then none else σ m
theorem killL_nil (σ : Nat → Option AO) : killL σ [] = σ := by funext m; simp [killL]
theorem killL_cons (σ : Nat → Option AO) (n : Nat) (ns : List Nat) : killL (upd σ n none) ns = killL σ (n :: ns) := by
  funext m
  by_cases h1 : m = n
  · subst h1; simp [killL, upd_same]
  · simp [killL, h1, upd_ne]
theorem killL_one (σ : Nat → Option AO) (n : Nat) : killL σ [n] = upd σ n none := by rw [← killL_cons, killL_nil]

theorem leavesM {F : Fence} {n : Nat} {fn : Func} {tmps : Array Value} {R : Ending → World → Prop} {φ : Nat → Ref} : ∀ {ns : List Nat} {l : List Deferred} {w : World} {σ : Nat → Option AO}, marks φ ns l → (∀ m, m ∈ ns → σ m = some (.raw (.deferred (some [])))) → ns.Nodup → SRel ⟨w, φ, σ⟩ →
    (∀ w', SRel ⟨w', φ, killL σ ns⟩ → Ext ⟨w, φ, σ⟩ ⟨w', φ, killL σ ns⟩ → LeavesIn F n P fn tmps R [] .returning w') → LeavesInM F n P fn tmps R l .returning w
  | [], _, w, σ, hm, _, _, hs, h => by
    obtain rfl : _ = [] := hm
    rw [killL_nil] at h
    exact h w hs (Ext.refl _)
  | m :: ns, _, w, σ, hm, ho, hnd, hs, h => by
    obtain ⟨b, l', h1, rfl, h3⟩ := hm
    have hσ := ho m (by simp)
    obtain ⟨b', k1, k2⟩ := hs.obj m _ hσ
    replace k1 : φ m = .blk b' := k1
    rw [h1] at k1; cases k1
    replace k2 : w.heap[b]? = some (.deferred (some [])) := k2
    have hlt : b < w.heap.size := (Array.getElem?_eq_some_iff.1 k2).1
    obtain ⟨hs1, hx1⟩ := putN (o := .deferred none) hs (.raw (.deferred none)) hσ h1 hlt fun _ => ⟨b, h1, World.putObj_heap_same hlt⟩
    have hs2 := SRel.kill hs1 m
    have hx2 := hx1.trans (Ext.kill m)
    rw [upd_idem] at hs2 hx2
    have hnd' := List.nodup_cons.1 hnd
    refine ⟨by simp, .inl ⟨b, _, rfl, run_takeDeferred k2, leavesM h3 (fun q hq => ?_) hnd'.2 hs2 fun w' q1 q2 => ?_⟩⟩
    · have hqm : q ≠ m := fun e => hnd'.1 (by rw [← e]; exact hq)
      rw [upd_ne _ _ hqm]; exact ho q (by simp [hq])
    · rw [killL_cons] at q1 q2
      exact h w' q1 (hx2.trans q2)

def fnPostM (tt : Nat → Option TI) (fn : Func) (c : Nat) (σ : Nat → Option AO) (Q : AV → (Nat → Option AO) → Prop) : Exit → AS → Prop := fun e s0 => ∃ s, Gh s0 s ∧ (e = .normal ∨ e = .ret) ∧ (∀ m, m ∈ s.ds → s.σ m = some (.raw (.deferred (some [])))) ∧ s.ds.Nodup ∧
  ∃ xs, resA tt (killL s.σ s.ds) s.t fn.results.toList = some xs ∧ (one xs).lt c ∧ Stays c σ (killL s.σ s.ds) ∧ Q (one xs) (cutσ c (killL s.σ s.ds))
theorem fnPostM.gh {fn : Func} {c : Nat} {σ : Nat → Option AO} {Q : AV → (Nat → Option AO) → Prop} {e : Exit} {s s' : AS} (hg : Gh s s') (h : fnPostM tt fn c σ Q e s') : fnPostM tt fn c σ Q e s := by
  obtain ⟨s2, h1, h2⟩ := h
  exact ⟨s2, hg.trans h1, h2⟩

theorem CallA.ofM (ht : TTok P tt) {f : FuncId} {fn : Func} {code : Code} {args : List AV} {σ : Nat → Option AO} {Ns : List Nat} {Q : AV → (Nat → Option AO) → Prop} (hf : P.funcs[f]? = some fn) (hb : fn.body = some code) (hl : args.length ≤ fn.ntmps)
    (h : ∀ c, Facts (startA args σ c Ns fn.ntmps) → Tri none P code (startA args σ c Ns fn.ntmps) (fnPostM tt fn c σ Q)) : CallA P f args σ Ns Q := by
  intro c w φ vs hvs hs hfresh hNs
  have hr : CRel (startA args σ c Ns fn.ntmps) { tmps := vs.toArray ++ Array.replicate (fn.ntmps - vs.toArray.size) undef, defers := [] } w φ := by
    refine ⟨fun i => ?_, ?_, rfl, hs, hfresh, hNs⟩
    · show VRel _ (args.getD i .junk) _
      by_cases hi : i < args.length
      · obtain ⟨v, k1, k2⟩ := LRel.get i hvs (List.getElem?_eq_getElem hi)
        have hi' : i < vs.length := by rw [hvs.length]; exact hi
        have : (vs.toArray ++ Array.replicate (fn.ntmps - vs.toArray.size) undef).getD i undef = v := by
          rw [Array.getD_eq_getD_getElem?, Array.getElem?_append_left (by simpa using hi')]
          simp [k1]
        rw [this, List.getD_eq_getElem?_getD, List.getElem?_eq_getElem hi]
        exact k2
      · rw [List.getD_eq_getElem?_getD, List.getElem?_eq_none (by omega)]; trivial
    · simp only [startA, Array.size_append, List.size_toArray, Array.size_replicate, hvs.length]; omega
  refine callsIn_of_wp_marks (F := Fence.wide) hf hb trivial ?_
  refine wpIn_mono (h c hr.facts _ w φ hr) ?_
  rintro e a1 w1 ⟨s0, φ0, ⟨s, hgh, he, hds, hnd, xs, hres, hlt, hst, hQ⟩, hr0, hevo0⟩
  obtain ⟨φ1, hr1, hev⟩ := hgh _ _ _ hr0
  have hevo := hevo0.trans hev
  have fin : LeavesInM Fence.wide 0 P fn a1.tmps (fun e w' => ∃ v x σ' φ', e = .returned v ∧ VRel ⟨w', φ', σ'⟩ x v ∧ Q x σ' ∧ SRel ⟨w', φ', σ'⟩ ∧ (∀ n, c ≤ n → φ' n = .unset) ∧
      (∀ n, n < c → n ∉ Ns → φ n = .unset → φ' n = .unset) ∧ Ext ⟨w, φ, σ⟩ ⟨w', φ', σ'⟩) a1.defers .returning w1 := by
    refine leavesM hr1.defers hds hnd hr1.store fun w2 hs2 hx2 => ?_
    obtain ⟨v, hv1, hv2⟩ := resA_sound (fn := fn) ht hs2 (fun i => VRel.mono hx2 _ _ (hr1.slot i)) hres
    obtain ⟨c1, c2, c3, c4⟩ := cut_all (R0 := ⟨w, φ, σ⟩) (σ' := cutσ c (killL s.σ s.ds)) hfresh hs (hevo.ext.trans hx2) hs2 (fun n o hn => by
      simp only [cutσ] at hn
      split at hn
      · rename_i hlt; exact ⟨hlt, hn, hst n o hlt hn⟩
      · cases hn) hlt hv2
    exact ⟨v, hv1, v, _, _, _, rfl, c1, hQ, c2, c3, fun n h1 h2 h3 => by rw [cutφ_lt _ h1]; exact hevo.unset n h1 h2 h3, c4⟩
  rcases he with rfl | rfl
  · exact fin
  · exact fin

/-- A row of slots as a list, for a loop's record. -/
def tlist (l : List (Nat × AV)) (m : Nat) : List AV := (List.range m).map (tl l)
theorem tlist_length (l : List (Nat × AV)) (m : Nat) : (tlist l m).length = m := by simp [tlist]
theorem tlist_wk {t : Nat → AV} {l : List (Nat × AV)} {m : Nat} (h : LeT t (tl l)) : ∀ i x, (tlist l m)[i]? = some x → Wk (t i) x := fun i x e => by
  simp only [tlist, List.getElem?_map, Option.map_eq_some_iff] at e
  obtain ⟨j, h1, rfl⟩ := e
  obtain ⟨h2, h3⟩ := List.getElem?_eq_some_iff.1 h1
  simp at h3
  subst h3
  rcases h i with e | e
  · rw [e]; exact Wk.junk _
  · exact e
theorem tl_big {l : List (Nat × AV)} {m : Nat} (h : (l.all fun p => decide (p.1 < m)) = true) {i : Nat} (hi : m ≤ i) : tl l i = .junk := by
  induction l with
  | nil => rfl
  | cons p l ih =>
    simp only [List.all_cons, Bool.and_eq_true, decide_eq_true_eq] at h
    rw [show tl (p :: l) i = if i = p.1 then p.2 else tl l i from rfl, if_neg (by omega)]
    exact ih h.2
theorem startR_tl {ps : List Nat} {args : List AV} {l : List (Nat × AV)} {m : Nat} {σ : Nat → Option AO} {c : Nat} {Ns : List Nat} (h : (l.all fun p => decide (p.1 < m)) = true) :
    startR ps args (tlist l m) σ c Ns = { t := setPs ps args (tl l), σ := σ, c := c, fr := Ns, m := m, ds := [] } := by
  have : (fun i => (tlist l m).getD i .junk) = tl l := by
    funext i
    by_cases hi : i < m
    · simp [tlist, List.getD_eq_getElem?_getD, hi]
    · rw [tl_big h (Nat.le_of_not_lt hi)]
      simp [tlist, List.getD_eq_getElem?_getD, hi]
  simp only [startR, this, tlist_length]
end Go.Ab
