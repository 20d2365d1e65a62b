/- Ab19: an array that was laid anew takes the old one's name; a slice that was set to nil keeps its array's name. -/
import Derived.Test.YtilpklkgmibpgaaAb18
namespace Go.Ab
open Go.RowKit
set_option linter.unusedVariables false
set_option linter.unusedSimpArgs false
variable {P : Program} {tt : Nat → Option TI} {r : Option Nat}

theorem at_gen {r : Option (Nat × Nat)} {g g' : Nat} : (Ref.arr r g).at = (Ref.arr r g').at := by cases r <;> rfl
/-- The array that stands in a cell takes another name, that is given up for it. -/
theorem Gh.rename {st : AS} (n n2 m k : Nat) {T T2 T' e e2 g g2 len : Nat} {rows rows2 : List (List AV)} {cs : List AV} {y y2 z : Option AO} {q : Option AV} (hn : st.σ n = y) (hy : y = some (.arr T e g rows)) (hn2 : st.σ n2 = y2) (hy2 : y2 = some (.arr T2 e2 g2 rows2))
    (hm : st.σ m = z) (hz : z = some (.cells T' cs)) (hk : cs[k]? = q) (hq : q = some (.os n2 g2 len)) (hne : n ≠ n2) :
    Gh st (st.withσ (upd (upd (upd st.σ n2 none) n (some (.arr T2 e2 (g + 1) rows2))) m (some (.cells T' (cs.set k (.os n (g + 1) len))))) st.fr) := fun a w φ hr => by
  subst hy hy2 hz hq
  have hs := hr.store
  have hmn : m ≠ n := by rintro rfl; rw [hm] at hn; cases hn
  have hmn2 : m ≠ n2 := by rintro rfl; rw [hm] at hn2; cases hn2
  have hφn : ∃ r, φ n = .arr r g := by
    rcases hs.obj n _ hn with ⟨k1, _⟩ | ⟨b, c, vs, k1, _⟩
    · exact ⟨_, k1⟩
    · exact ⟨_, k1⟩
  obtain ⟨r1, hφn⟩ := hφn
  have hφ2 : ∃ r2, φ n2 = .arr r2 g2 := by
    rcases hs.obj n2 _ hn2 with ⟨k1, _⟩ | ⟨b, c, vs, k1, _⟩
    · exact ⟨_, k1⟩
    · exact ⟨_, k1⟩
  obtain ⟨r2, hφ2⟩ := hφ2
  obtain ⟨σ', hσ'⟩ : ∃ σ', upd (upd (upd st.σ n2 none) n (some (.arr T2 e2 (g + 1) rows2))) m (some (.cells T' (cs.set k (.os n (g + 1) len)))) = σ' := ⟨_, rfl⟩
  obtain ⟨φ', hφ'⟩ : ∃ φ', upd φ n (.arr r2 (g + 1)) = φ' := ⟨_, rfl⟩
  have pn : φ' n = .arr r2 (g + 1) := by rw [← hφ', upd_same]
  have po : ∀ j, j ≠ n → φ' j = φ j := fun j hj => by rw [← hφ', upd_ne _ _ hj]
  have sm : σ' m = some (.cells T' (cs.set k (.os n (g + 1) len))) := by rw [← hσ', upd_same]
  have sn : σ' n = some (.arr T2 e2 (g + 1) rows2) := by rw [← hσ', upd_ne _ _ hmn.symm, upd_same]
  have s2 : σ' n2 = none := by rw [← hσ', upd_ne _ _ hmn2.symm, upd_ne _ _ hne.symm, upd_same]
  have so : ∀ j, j ≠ m → j ≠ n → j ≠ n2 → σ' j = st.σ j := fun j h1 h2 h3 => by rw [← hσ', upd_ne _ _ h1, upd_ne _ _ h2, upd_ne _ _ h3]
  have hown : ∀ b, Env.own ⟨w, φ', σ'⟩ b → Env.own ⟨w, φ, st.σ⟩ b := fun b ⟨j, o, h1, h2⟩ => by
    replace h1 : σ' j = some o := h1
    replace h2 : (φ' j).at = some b := h2
    by_cases e1 : j = n
    · subst e1
      rw [pn] at h2
      exact ⟨n2, _, hn2, by show (φ n2).at = _; rw [hφ2, at_gen (g' := g + 1)]; exact h2⟩
    · rw [po j e1] at h2
      by_cases e2 : j = m
      · subst e2; exact ⟨_, _, hm, h2⟩
      · by_cases e3 : j = n2
        · subst e3; rw [s2] at h1; cases h1
        · exact ⟨j, o, (so j e2 e1 e3).symm.trans h1, h2⟩
  have hx : Ext ⟨w, φ, st.σ⟩ ⟨w, φ', σ'⟩ := ⟨rfl, rfl, rfl, Nat.le_refl _, fun j => by
    show (φ j).le (φ' j)
    by_cases e1 : j = n
    · subst e1; rw [pn, hφn]; exact ⟨r2, g + 1, rfl, .inl (by omega)⟩
    · rw [po j e1]; exact Ref.le_refl _, fun b _ ho => ⟨rfl, fun h => ho (hown b h)⟩⟩
  rw [hσ']
  refine ⟨φ', ⟨fun j => VRel.mono hx _ _ (hr.slot j), hr.size, marks.mono hx hr.defers, ⟨fun j o h1 => ?_, fun i j o o' b h1 h2 h3 h4 => ?_⟩, fun j hj => ?_, fun j hj => ?_⟩, ⟨hx, Nat.le_refl _, fun _ h _ => h, fun j _ _ hu => ?_⟩⟩
  · replace h1 : σ' j = some o := h1
    by_cases e1 : j = n
    · subst e1
      rw [sn] at h1; cases h1
      rcases hs.obj n2 _ hn2 with ⟨k1, k2⟩ | ⟨b, c, vs, k1, k2, k3, k4, k5, k6⟩
      · replace k1 : φ n2 = .arr none g2 := k1
        rw [hφ2] at k1; cases k1
        exact .inl ⟨pn, k2⟩
      · replace k1 : φ n2 = .arr (some (b, c)) g2 := k1
        rw [hφ2] at k1; cases k1
        exact .inr ⟨b, c, vs, pn, k2, k3, k4, k5, RowsAt.mono hx rfl _ _ k6⟩
    · by_cases e2 : j = m
      · subst e2
        rw [sm] at h1; cases h1
        obtain ⟨b, vs, k1, k2, k3, k4⟩ := hs.obj _ _ hm
        refine ⟨b, vs, (po _ e1).trans k1, k2, by simpa using k3, CellsAt.of_get fun i x hi => ?_⟩
        rw [List.getElem?_set] at hi
        split at hi
        · rename_i hki
          subst hki
          split at hi
          · cases hi
            obtain ⟨v, q1, q2⟩ := CellsAt.get _ k4 hk
            obtain ⟨a', c', rfl, r', g', p1, p2, p3⟩ := q2
            replace p1 : φ n2 = .arr r' g' := p1
            rw [hφ2] at p1; cases p1
            exact ⟨_, q1, a', c', rfl, r2, g + 1, pn, Nat.le_refl _, fun _ => p3 rfl⟩
          · cases hi
        · obtain ⟨v, q1, q2⟩ := CellsAt.get i k4 hi
          exact ⟨v, q1, VRel.mono hx _ _ q2⟩
      · by_cases e3 : j = n2
        · subst e3; rw [s2] at h1; cases h1
        · rw [so j e2 e1 e3] at h1
          exact (hs.obj j o h1).mono hx (po j e1) fun _ _ => rfl
  · replace h1 : σ' i = some o := h1
    replace h2 : σ' j = some o' := h2
    replace h3 : (φ' i).at = some b := h3
    replace h4 : (φ' j).at = some b := h4
    have back : ∀ i o, i ≠ n → σ' i = some o → ∃ o, st.σ i = some o ∧ i ≠ n2 := fun i o e1 h1 => by
      have e3 : i ≠ n2 := by rintro rfl; rw [s2] at h1; cases h1
      by_cases e2 : i = m
      · subst e2; exact ⟨_, hm, e3⟩
      · exact ⟨o, by rw [← so i e2 e1 e3]; exact h1, e3⟩
    by_cases e1 : i = n
    · by_cases e2 : j = n
      · rw [e1, e2]
      · exfalso
        obtain ⟨o2, k1, k2⟩ := back j o' e2 h2
        rw [po j e2] at h4
        subst e1
        rw [pn] at h3
        exact k2 (hs.inj j n2 _ _ b k1 hn2 h4 (by show (φ n2).at = _; rw [hφ2, at_gen (g' := g + 1)]; exact h3))
    · obtain ⟨o1, k1, k2⟩ := back i o e1 h1
      rw [po i e1] at h3
      by_cases e2 : j = n
      · exfalso
        subst e2
        rw [pn] at h4
        exact k2 (hs.inj i n2 _ _ b k1 hn2 h3 (by show (φ n2).at = _; rw [hφ2, at_gen (g' := g + 1)]; exact h4))
      · obtain ⟨o2, k3, k4⟩ := back j o' e2 h2
        rw [po j e2] at h4
        exact hs.inj i j _ _ b k1 k3 h3 h4
  · have hj' : st.c ≤ j := hj
    have hnc := hr.facts.σ n _ hn
    rw [po j (by omega)]; exact hr.fresh j hj'
  · replace hj : j ∈ st.fr := hj
    obtain ⟨f1, f2⟩ := hr.free j hj
    have : j ≠ n := by rintro rfl; rw [hφn] at f2; cases f2
    rw [po j this]; exact ⟨f1, f2⟩
  · have : j ≠ n := by rintro rfl; rw [hφn] at hu; cases hu
    rw [po j this]; exact hu

/-- A slice in a cell was set to nil: its array's name stands for the nil one. -/
theorem Gh.renil {st : AS} (n m k : Nat) {T T' e g : Nat} {rows : List (List AV)} {cs : List AV} {y z : Option AO} {q : Option AV} (hn : st.σ n = y) (hy : y = some (.arr T e g rows)) (hm : st.σ m = z) (hz : z = some (.cells T' cs)) (hk : cs[k]? = q) (hq : q = some .nils) :
    Gh st (st.withσ (upd (upd st.σ n (some (.arr T e (g + 1) []))) m (some (.cells T' (cs.set k (.os n (g + 1) 0))))) st.fr) := fun a w φ hr => by
  subst hy hz hq
  have hs := hr.store
  have hmn : m ≠ n := by rintro rfl; rw [hm] at hn; cases hn
  have hφn : ∃ r, φ n = .arr r g := by
    rcases hs.obj n _ hn with ⟨k1, _⟩ | ⟨b, c, vs, k1, _⟩
    · exact ⟨_, k1⟩
    · exact ⟨_, k1⟩
  obtain ⟨r1, hφn⟩ := hφn
  have hle : (φ n).le (.arr none (g + 1)) := by rw [hφn]; exact ⟨none, g + 1, rfl, .inl (by omega)⟩
  have hx1 : Ext ⟨w, φ, st.σ⟩ ⟨w, upd φ n (.arr none (g + 1)), upd st.σ n (some (.arr T e (g + 1) []))⟩ := Ext.turn _ (Nat.le_refl _) rfl rfl rfl hle (fun _ _ _ => rfl) (by simp [Ref.at])
  have hs1 := SRel.turn (w' := w) (n := n) (ρ := .arr none (g + 1)) (y := .arr T e (g + 1) []) hs (Nat.le_refl _) rfl rfl rfl hle (fun _ _ _ => rfl) (by simp [Ref.at]) (.inl ⟨upd_same _ _ _, rfl⟩)
  have hm1 : upd st.σ n (some (.arr T e (g + 1) [])) m = some (.cells T' cs) := by rw [upd_ne _ _ hmn]; exact hm
  obtain ⟨b, vs, k1, k2, k3, k4⟩ := hs1.obj m _ hm1
  replace k1 : upd φ n (.arr none (g + 1)) m = .blk b := k1
  obtain ⟨hs2, hx2⟩ := retell hs1 (.cells T' (cs.set k (.os n (g + 1) 0))) hm1 k1 fun hxx => ⟨b, vs, k1, k2, by simpa using k3, CellsAt.of_get fun i x hi => by
      rw [List.getElem?_set] at hi
      split at hi
      · rename_i hki
        subst hki
        split at hi
        · cases hi
          obtain ⟨v, q1, q2⟩ := CellsAt.get _ k4 hk
          have q2 : v = .slice none 0 0 := q2
          subst q2
          exact ⟨_, q1, none, 0, rfl, none, g + 1, upd_same _ _ _, Nat.le_refl _, fun _ => .inl ⟨rfl, rfl, rfl, rfl⟩⟩
        · cases hi
      · obtain ⟨v, q1, q2⟩ := CellsAt.get i k4 hi
        exact ⟨v, q1, VRel.mono hxx _ _ q2⟩⟩
  have hx := hx1.trans hx2
  refine ⟨upd φ n (.arr none (g + 1)), ⟨fun j => VRel.mono hx _ _ (hr.slot j), hr.size, marks.mono hx hr.defers, hs2, fun j hj => ?_, fun j hj => ?_⟩, ⟨hx, Nat.le_refl _, fun _ h _ => h, fun j _ _ hu => ?_⟩⟩
  · have hj' : st.c ≤ j := hj
    have hnc := (hr.facts.σ n _ hn).1
    rw [upd_ne _ _ (show j ≠ n by omega)]; exact hr.fresh j hj'
  · replace hj : j ∈ st.fr := hj
    obtain ⟨f1, f2⟩ := hr.free j hj
    have : j ≠ n := by rintro rfl; rw [hφn] at f2; cases f2
    rw [upd_ne _ _ this]; exact ⟨f1, f2⟩
  · have : j ≠ n := by rintro rfl; rw [hφn] at hu; cases hu
    rw [upd_ne _ _ this]; exact hu
end Go.Ab
