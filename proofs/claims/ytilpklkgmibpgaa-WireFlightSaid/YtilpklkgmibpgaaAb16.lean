/- Ab16: states that are told less exactly; a loop whose heads are told by a row of slots; arguments told more exactly than a contract asks. -/
import Derived.Test.YtilpklkgmibpgaaAb15
namespace Go.Ab
open Go.RowKit
set_option linter.unusedVariables false
set_option linter.unusedSimpArgs false
variable {P : Program} {tt : Nat → Option TI} {r : Option Nat}

/-- Slots: nothing is told but what the row says. -/
def tl : List (Nat × AV) → Nat → AV
  | [], _ => .junk
  | (k, x) :: l, i => if i = k then x else tl l i
theorem tl_nil {i : Nat} : tl [] i = .junk := rfl
theorem tl_same {k : Nat} {x : AV} {l : List (Nat × AV)} : tl ((k, x) :: l) k = x := by simp [tl]
theorem tl_ne {k i : Nat} {x : AV} {l : List (Nat × AV)} (h : i ≠ k) : tl ((k, x) :: l) i = tl l i := by simp [tl, h]

/-- The slots of the second are told by the first. -/
def LeT (t t' : Nat → AV) : Prop := ∀ i, t' i = .junk ∨ Wk (t i) (t' i)
theorem LeT.nil {t : Nat → AV} : LeT t (tl []) := fun _ => .inl rfl
theorem LeT.cons {t : Nat → AV} {k : Nat} {x : AV} {l : List (Nat × AV)} (h : t k = x) (hl : LeT t (tl l)) : LeT t (tl ((k, x) :: l)) := fun i => by
  by_cases e : i = k
  · subst e; rw [tl_same, ← h]; exact .inr (Wk.refl _)
  · rw [tl_ne e]; exact hl i
theorem LeT.consW {t : Nat → AV} {k : Nat} {x y : AV} {l : List (Nat × AV)} (h : t k = y) (hw : Wk y x) (hl : LeT t (tl l)) : LeT t (tl ((k, x) :: l)) := fun i => by
  by_cases e : i = k
  · subst e; rw [tl_same, h]; exact .inr hw
  · rw [tl_ne e]; exact hl i
theorem LeT.refl (t : Nat → AV) : LeT t t := fun _ => .inr (Wk.refl _)

structure Le (s s' : AS) : Prop where
  t : LeT s.t s'.t
  σ : s'.σ = s.σ
  c : s'.c = s.c
  fr : ∀ n, n ∈ s'.fr → n ∈ s.fr
  m : s'.m = s.m
  ds : s'.ds = s.ds
theorem Le.gh {s s' : AS} (h : Le s s') : Gh s s' := fun a w φ hr =>
  ⟨φ, ⟨fun i => by
    show VRel ⟨w, φ, s'.σ⟩ _ _
    rw [h.σ]
    rcases h.t i with e | e
    · rw [e]; trivial
    · exact e _ _ (hr.slot i), by rw [h.m]; exact hr.size, by rw [h.ds]; exact hr.defers, by rw [h.σ]; exact hr.store, fun n hn => hr.fresh n (by rw [← h.c]; exact hn), fun n hn => by rw [h.c]; exact hr.free n (h.fr n hn)⟩,
   ⟨by show Ext ⟨w, φ, s.σ⟩ ⟨w, φ, s'.σ⟩; rw [h.σ]; exact Ext.refl _, Nat.le_of_eq h.c.symm, fun n hn _ => h.fr n hn, fun _ _ _ e => e⟩⟩

/-- A loop whose heads are told by states of a kind. -/
theorem Tri.loopL {α : Type} {c : Code} {st : AS} {Q : Exit → AS → Prop} (inv : α → AS) (meas : α → Nat) (ok : α → Prop) (x0 : α) (hle : Gh st (inv x0)) (h0 : ok x0)
    (hround : ∀ x, ok x → Tri r P c (inv x) (thenQ (fun s => ∃ x', ok x' ∧ meas x' < meas x ∧ Gh s (inv x')) Q)) : Tri r P (.loop c) st Q := by
  refine Tri.gh hle ?_
  refine Tri.loop (fun n s => ∃ x, ok x ∧ meas x = n ∧ Gh s (inv x)) (meas x0) ⟨x0, h0, rfl, Gh.refl _⟩ ?_
  rintro n s ⟨x, hx, rfl, hg⟩
  refine Tri.gh hg ?_
  refine Tri.mono (hround x hx) ?_
  intro e s' h
  cases e with
  | normal => obtain ⟨x', h1, h2, h3⟩ := h; exact ⟨_, h2, x', h1, rfl, h3⟩
  | exit id => exact h
  | goto l => exact h
  | ret => exact h
  | panic ch => exact h
  | outgrown => exact h

theorem LRel.wk {R : Env} : ∀ {xs ys : List AV} {vs : List Value}, WkL xs ys → LRel R xs vs → LRel R ys vs
  | [], [], _, _, h => h
  | x :: xs, y :: ys, _, hw, h => by obtain ⟨v, vs', rfl, h1, h2⟩ := h; exact ⟨v, vs', rfl, hw.1 _ _ h1, LRel.wk hw.2 h2⟩
  | [], _ :: _, _, hw, _ => hw.elim
  | _ :: _, [], _, hw, _ => hw.elim
theorem CallA.wk {f : FuncId} {args args' : List AV} {σ : Nat → Option AO} {Ns : List Nat} {Q : AV → (Nat → Option AO) → Prop} (h : CallA P f args' σ Ns Q) (hw : WkL args args') : CallA P f args σ Ns Q :=
  fun c w φ vs h1 h2 h3 h4 => h c w φ vs (LRel.wk hw h1) h2 h3 h4

theorem ev_mk {t : Nat → AV} {σ : Nat → Option AO} {c : Nat} {fr : List Nat} {m : Nat} {ds : List Nat} {i : Nat} : (AS.mk t σ c fr m ds).ev (.tmp i) = t i := rfl
attribute [simp] tl_same tl_ne tl_nil ev_mk
end Go.Ab
