/- Ab10: an operation with its guard; a region; a region that draws its order. -/
import Derived.Test.YtilpklkgmibpgaaAb9
namespace Go.Ab
open Go.RowKit
set_option linter.unusedVariables false
set_option linter.unusedSimpArgs false
variable {P : Program} {tt : Nat → Option TI} {r : Option Nat}

def OpA (P : Program) (tt : Nat → Option TI) (ds : List (Option Tmp)) (st : AS) (o : Oper) (K : AS → Prop) : Prop :=
  match o.guard with
  | none => StepA P tt st o K
  | some (g, want) => ∃ d b, ds[g]? = some (some d) ∧ st.t d = .bool b ∧ (b = want → StepA P tt st o K) ∧ (b ≠ want → K (st.put o.dst .junk))

theorem OpA.mono {ds : List (Option Tmp)} {st : AS} {o : Oper} {K K' : AS → Prop} (h : ∀ s, K s → K' s) (hh : OpA P tt ds st o K) : OpA P tt ds st o K' := by
  unfold OpA at *
  split
  · rename_i hg; rw [hg] at hh; exact StepA.mono h hh
  · rename_i g want hg
    rw [hg] at hh
    obtain ⟨d, b, h1, h2, h3, h4⟩ := hh
    exact ⟨d, b, h1, h2, fun e => StepA.mono h (h3 e), fun e => h _ (h4 e)⟩

theorem OpA.sound (ht : TTok P tt) {ops : Array Oper} {ds : List (Option Tmp)} (hds : ds = ops.toList.map (·.dst)) {st : AS} {o : Oper} {K : AS → Prop} {a : Act} {w : World} {φ : Nat → Ref} {Q : Exit → Act → World → Prop}
    (hr : CRel st a w φ) (hd : ∀ d, o.dst = some d → d < st.m) (h : OpA P tt ds st o K) :
    if Region.wanted o (yielded ops a.tmps) = true then o.wpIn (fen r) 0 P a w (fun a' w' => ∃ st' φ', K st' ∧ CRel st' a' w' φ' ∧ Evo st w φ st' w' φ') Q
    else (∀ f, o.about P w a.eval = some f → (fen r).fn f) ∧ ∃ st' φ', K st' ∧ CRel st' (a.put o.dst undef) w φ' ∧ Evo st w φ st' w φ' := by
  unfold OpA at h
  unfold Region.wanted
  split at h
  · rename_i hg
    rw [hg]
    simp only [if_true]
    exact StepA.sound ht hr hd h
  · rename_i g want hg
    rw [hg]
    obtain ⟨d, b, h1, h2, h3, h4⟩ := h
    have hs := hr.slot d
    rw [h2] at hs
    have hget : a.tmps[d]? = some (.bool b) := by
      have hs' : a.tmps.getD d undef = .bool b := hs
      rcases Nat.lt_or_ge d a.tmps.size with k | k
      · simpa [k] using hs'
      · rw [Array.getD_eq_getD_getElem?, Array.getElem?_eq_none k] at hs'
        simp [undef] at hs'
    have hop : (ops[g]?).bind (·.dst) = some d := by
      rw [hds] at h1
      rw [List.getElem?_map] at h1
      cases ho : ops.toList[g]? with
      | none => rw [ho] at h1; cases h1
      | some og =>
        rw [ho] at h1
        simp only [Option.map_some, Option.some.injEq] at h1
        have : ops[g]? = some og := by simpa using ho
        rw [this]; exact h1
    have hy : yielded ops a.tmps g = some b := by
      unfold yielded
      rw [hop]
      simp [hget]
    simp only [hy]
    by_cases hb : b = want
    · subst hb
      simp only [beq_self_eq_true, if_true]
      exact StepA.sound ht hr hd (h3 rfl)
    · have : (some b == some want) = false := by simpa using hb
      simp only [this, Bool.false_eq_true, if_false]
      obtain ⟨c1, c2⟩ := hr.put (x := .junk) (v := undef) (Ext.refl _) hr.store hr.fresh (fun n hn => ⟨hn, (hr.free n hn).2⟩) (fun n _ _ e => e) hd trivial
      exact ⟨Oper.about_fen o _ _, _, φ, h4 hb, c1, c2⟩

def OpsA (P : Program) (tt : Nat → Option TI) (ds : List (Option Tmp)) : List Oper → AS → (AS → Prop) → Prop
  | [], st, K => K st
  | o :: os, st, K => OpA P tt ds st o fun s => OpsA P tt ds os s K

theorem AS.put_m (st : AS) (dst : Option Tmp) (x : AV) : (st.put dst x).m = st.m := by cases dst <;> rfl

theorem StepA.keep_m {st : AS} {o : Oper} {K : AS → Prop} (h : StepA P tt st o K) : StepA P tt st o (fun s => K s ∧ s.m = st.m) := by
  rcases h with ⟨x, h1, h2⟩ | ⟨x, σ', h1, h2⟩ | ⟨nm, x, σ', h1, h2, h3⟩ | ⟨k, args, Ns, Q, h1, h2, h3, h4, h5⟩
  · exact .inl ⟨x, h1, h2, AS.put_m _ _ _⟩
  · exact .inr (.inl ⟨x, σ', h1, h2, AS.put_m _ _ _⟩)
  · exact .inr (.inr (.inl ⟨nm, x, σ', h1, h2, h3, AS.put_m _ _ _⟩))
  · exact .inr (.inr (.inr ⟨k, args, Ns, Q, h1, h2, h3, h4, fun x σ' hq => ⟨h5 x σ' hq, AS.put_m _ _ _⟩⟩))
theorem OpA.keep_m {ds : List (Option Tmp)} {st : AS} {o : Oper} {K : AS → Prop} (h : OpA P tt ds st o K) : OpA P tt ds st o (fun s => K s ∧ s.m = st.m) := by
  unfold OpA at *
  split
  · rename_i hg; rw [hg] at h; exact h.keep_m
  · rename_i g want hg
    rw [hg] at h
    obtain ⟨d, b, h1, h2, h3, h4⟩ := h
    exact ⟨d, b, h1, h2, fun e => (h3 e).keep_m, fun e => ⟨h4 e, AS.put_m _ _ _⟩⟩

def dstOk (m : Nat) (l : List Oper) : Bool := l.all fun o => match o.dst with
  | some d => decide (d < m)
  | none => true
theorem dstOk_spec {m : Nat} {l : List Oper} (h : dstOk m l = true) {o : Oper} (ho : o ∈ l) : ∀ d, o.dst = some d → d < m := by
  intro d hd
  have := List.all_eq_true.1 h o ho
  rw [hd] at this
  simpa using this

/-- A region in the text's order. -/
theorem Tri.region (ht : TTok P tt) {id : Nat} {l : List Oper} {st : AS} {Q : Exit → AS → Prop} (hd : dstOk st.m l = true) (h : OpsA P tt (l.map (·.dst)) l st (Q .normal)) : Tri r P (.region id l.toArray false) st Q := by
  intro a w φ hr
  refine wpIn_region_lit ?_
  have key : ∀ (l' : List Oper) (st1 : AS) (a1 : Act) (w1 : World) (φ1 : Nat → Ref), dstOk st1.m l' = true → OpsA P tt (l.map (·.dst)) l' st1 (Q .normal) → CRel st1 a1 w1 φ1 → Evo st w φ st1 w1 φ1 →
      wpListIn (fen r) 0 P l.toArray (cpost st w φ Q) l' a1 w1 := by
    intro l'
    induction l' with
    | nil => intro st1 a1 w1 φ1 _ h1 h2 h3; exact ⟨st1, φ1, h1, h2, h3⟩
    | cons o l' ih =>
      intro st1 a1 w1 φ1 hd1 h1 h2 h3
      have hd2 : dstOk st1.m l' = true := by simp only [dstOk, List.all_cons, Bool.and_eq_true] at hd1 ⊢; exact hd1.2
      have h1' : OpA P tt (l.map (·.dst)) st1 o (fun s => OpsA P tt (l.map (·.dst)) l' s (Q .normal)) := h1
      have := OpA.sound (r := r) (Q := cpost st w φ Q) ht (ops := l.toArray) (ds := l.map (·.dst)) (by simp) h2 (dstOk_spec hd1 (List.mem_cons_self ..)) (OpA.keep_m h1')
      refine wpListIn_step fun K hK => ?_
      split
      · rename_i hw
        rw [if_pos hw] at this
        refine Oper.wpIn_mono ?_ this
        rintro a2 w2 ⟨st2, φ2, ⟨k1, k0⟩, k2, k3⟩
        exact hK _ _ (ih st2 a2 w2 φ2 (by rw [k0]; exact hd2) k1 k2 (h3.trans k3))
      · rename_i hw
        rw [if_neg hw] at this
        obtain ⟨q1, st2, φ2, ⟨k1, k0⟩, k2, k3⟩ := this
        exact ⟨q1, hK _ _ (ih st2 _ w1 φ2 (by rw [k0]; exact hd2) k1 k2 (h3.trans k3))⟩
  exact key l st a w φ hd h hr (Evo.refl _ _ _)

/-! ### A region that draws -/
def Good (st : AS) : Prop := (∀ n, n ∈ st.fr → st.σ n = none) ∧ ∀ n, st.c ≤ n → st.σ n = none
theorem CRel.good {st : AS} {a : Act} {w : World} {φ : Nat → Ref} (h : CRel st a w φ) : Good st := by
  have key : ∀ n, φ n = .unset → st.σ n = none := fun n hn => by
    cases hσ : st.σ n with
    | none => rfl
    | some o =>
      have := h.store.obj n o hσ
      cases o with
      | cells T cs => obtain ⟨b, vs, e, _⟩ := this; replace e : φ n = _ := e; rw [hn] at e; cases e
      | arr T e g rows =>
        rcases this with ⟨e, _⟩ | ⟨b, c, vs, e, _⟩ <;> (replace e : φ n = _ := e; rw [hn] at e; cases e)
      | imap es => obtain ⟨b, ents, clock, e, _⟩ := this; replace e : φ n = _ := e; rw [hn] at e; cases e
      | raw o => obtain ⟨b, e, _⟩ := this; replace e : φ n = _ := e; rw [hn] at e; cases e
      | loop ps asg body t nd => obtain ⟨b, _, e, _⟩ := this; replace e : φ n = _ := e; rw [hn] at e; cases e
      | loopD j => obtain ⟨b, _, e, _⟩ := this; replace e : φ n = _ := e; rw [hn] at e; cases e
  exact ⟨fun n hn => key n (h.free n hn).2, fun n hn => key n (h.fresh n hn)⟩

def AnyA (P : Program) (tt : Nat → Option TI) (ops : Array Oper) (ds : List (Option Tmp)) : Nat → Array Bool → AS → (AS → Prop) → Prop
  | 0, listed, st, K => Region.ready .any ops listed = [] ∧ K st
  | f + 1, listed, st, K => Good st → (Region.ready .any ops listed = [] → K st) ∧
      ∀ i, i ∈ Region.ready .any ops listed → ∃ o, ops[i]? = some o ∧ OpA P tt ds st o fun s => AnyA P tt ops ds f (listed.setIfInBounds i true) s K

theorem AnyA.mono {ops : Array Oper} {ds : List (Option Tmp)} : ∀ {f : Nat} {listed : Array Bool} {st : AS} {K K' : AS → Prop}, (∀ s, K s → K' s) → AnyA P tt ops ds f listed st K → AnyA P tt ops ds f listed st K'
  | 0, _, _, _, _, h, hh => ⟨hh.1, h _ hh.2⟩
  | f + 1, _, _, _, _, h, hh => fun hg => ⟨fun e => h _ ((hh hg).1 e), fun i hi => by
    obtain ⟨o, h1, h2⟩ := (hh hg).2 i hi
    exact ⟨o, h1, OpA.mono (fun s hs => AnyA.mono h hs) h2⟩⟩

theorem Tri.draw (ht : TTok P tt) (hmix : P.follows .mixedOrders = true) {id : Nat} {l : List Oper} {st : AS} {Q : Exit → AS → Prop} (hd : dstOk st.m l = true)
    (h : AnyA P tt l.toArray (l.map (·.dst)) l.length (Array.replicate l.length false) st (Q .normal)) : Tri r P (.region id l.toArray true) st Q := by
  intro a w φ hr
  refine wpIn_region_any hmix ?_
  have key : ∀ (f : Nat) (listed : Array Bool) (st1 : AS) (a1 : Act) (w1 : World) (φ1 : Nat → Ref), st1.m = st.m → AnyA P tt l.toArray (l.map (·.dst)) f listed st1 (Q .normal) → CRel st1 a1 w1 φ1 → Evo st w φ st1 w1 φ1 →
      wpAnyIn (fen r) 0 P .any l.toArray (cpost st w φ Q) f listed a1 w1 := by
    intro f
    induction f with
    | zero => intro listed st1 a1 w1 φ1 _ h1 h2 h3; exact ⟨h1.1, st1, φ1, h1.2, h2, h3⟩
    | succ f ih =>
      intro listed st1 a1 w1 φ1 hm h1 h2 h3
      obtain ⟨q1, q2⟩ := h1 h2.good
      refine ⟨fun e => ⟨st1, φ1, q1 e, h2, h3⟩, fun i hi => ?_⟩
      obtain ⟨o, ho, h4⟩ := q2 i hi
      have hmem : o ∈ l := by
        have := Array.mem_of_getElem? ho
        simpa using this
      have := OpA.sound (r := r) (Q := cpost st w φ Q) ht (ops := l.toArray) (ds := l.map (·.dst)) (by simp) h2 (by rw [hm]; exact dstOk_spec hd hmem) (OpA.keep_m h4)
      unfold wpOpIn
      rw [ho]
      simp only
      split
      · rename_i hw
        rw [if_pos hw] at this
        refine Oper.wpIn_mono ?_ this
        rintro a2 w2 ⟨st2, φ2, ⟨k1, k0⟩, k2, k3⟩
        exact ih _ st2 a2 w2 φ2 (k0.trans hm) k1 k2 (h3.trans k3)
      · rename_i hw
        rw [if_neg hw] at this
        obtain ⟨q1, st2, φ2, ⟨k1, k0⟩, k2, k3⟩ := this
        exact ⟨q1, ih _ st2 _ w1 φ2 (k0.trans hm) k1 k2 (h3.trans k3)⟩
  have hx : Ext ⟨w, φ, st.σ⟩ ⟨{ w with drawn := w.drawn + 1 }, φ, st.σ⟩ := Ext.same rfl rfl rfl rfl
  have := key l.length (Array.replicate l.length false) st a { w with drawn := w.drawn + 1 } φ rfl h
    ⟨fun i => VRel.mono hx _ _ (hr.slot i), hr.size, hr.defers, hr.store.same rfl rfl rfl rfl, hr.fresh, hr.free⟩ ⟨hx, Nat.le_refl _, fun _ e _ => e, fun _ _ _ e => e⟩
  simpa using this

end Go.Ab
