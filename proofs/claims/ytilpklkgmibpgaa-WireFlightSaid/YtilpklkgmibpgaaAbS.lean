/- AbS: windows of an array that has a name: slicing it, appending in place, clearing a part. -/
import Derived.Test.YtilpklkgmibpgaaAb7
namespace Go.Ab
open Go.RowKit
set_option linter.unusedVariables false
set_option linter.unusedSimpArgs false
variable {P : Program} {tt : Nat → Option TI}

theorem bounds_more {w : World} {len cap : Nat} {lo hi : Option Value} {l h : Nat}
    (hl : (lo = none ∧ l = 0) ∨ ∃ k i, lo = some (.int k i) ∧ 0 ≤ i ∧ i.toNat = l) (hh : ∃ k i, hi = some (.int k i) ∧ 0 ≤ i ∧ i.toNat = h) (h1 : l ≤ h) (h2 : h ≤ cap) :
    (Instr.sliceBounds true len cap lo hi none).run P w = .ok (l, h, cap) w := by
  obtain ⟨k', i', rfl, i0', rfl⟩ := hh
  rcases hl with ⟨rfl, rfl⟩ | ⟨k, i, rfl, i0, rfl⟩
  · simp [Instr.sliceBounds, sliceBound_run (P := P) (w := w) i0' h2]
  · simp [Instr.sliceBounds, sliceBound_run (P := P) (w := w) i0' h2, sliceBound_run (P := P) (w := w) i0 h1]

/-- A slice of an array that has a name. -/
def sliceO (tt : Nat → Option TI) (σ : Nat → Option AO) (T : Nat) (x : AV) (lo hi mx : Option AV) : Option AV :=
  match tt T with
  | some ti => match ti.d, x with
    | .slice e, .os n g len => match tt e, boundA lo 0, boundA hi len, boundA mx len with
      | some te, some l, some h, some m => match σ n with
        | some (.arr _ _ g' rows) =>
          if g = g' ∧ len ≤ rows.length then
            if mx.isSome = true then (if l ≤ h ∧ h ≤ m ∧ m ≤ len ∧ hi.isSome = true then some .junk else none)
            else if l ≤ h ∧ (h ≤ len ∨ (hi.isSome = true ∧ h ≤ rows.length)) then some (if l = 0 then .os n g h else .ow n g te.size l (h - l)) else none
          else none
        | _ => none
      | _, _, _, _ => none
    | _, _ => none
  | none => none

theorem sliceO_sound (ht : TTok P tt) {R : Env} (hs : SRel R) {T : Nat} {x y : AV} {lo hi mx : Option AV} {v : Value} {vlo vhi vmx : Option Value} (h : sliceO tt R.σ T x lo hi mx = some y) (hx : VRel R x v)
    (hlo : lo.isSome = vlo.isSome ∧ ∀ a b, lo = some a → vlo = some b → VRel R a b) (hhi : hi.isSome = vhi.isSome ∧ ∀ a b, hi = some a → vhi = some b → VRel R a b)
    (hmx : mx.isSome = vmx.isSome ∧ ∀ a b, mx = some a → vmx = some b → VRel R a b) :
    ∃ u, (Instr.sliceAt T v vlo vhi vmx).run P R.w = .ok u R.w ∧ VRel R y u := by
  unfold sliceO at h
  split at h
  · rename_i ti hT
    split at h
    · rename_i e n g len hd
      have hu := (ht.at hT).slice hd
      split at h
      · rename_i te l hh m hte hl hhe hme
        split at h
        · rename_i T2 e2 g2 rows2 hn
          split at h
          · rename_i hgg
            obtain ⟨rfl, hlr⟩ := hgg
            obtain ⟨a, c, rfl, r, g', f1, f2, f3⟩ := hx
            have hgg : g = g' := by
              rcases hs.obj n _ hn with ⟨k, _⟩ | ⟨b, c', cur, k, _⟩ <;> (rw [f1] at k; cases k; rfl)
            have hlc : len ≤ c ∧ rows2.length ≤ c := by
              rcases hs.obj n _ hn with ⟨k, k'⟩ | ⟨b, c', cur, k, _, _, _, k5, _⟩
              · subst k'
                rw [f1] at k; cases k
                simp at hlr ⊢; omega
              · rw [f1] at k; cases k
                rcases f3 rfl with ⟨k1, _⟩ | ⟨_, k1, k2, _⟩
                · cases k1
                · cases k1; exact ⟨k2, k5⟩
            split at h
            · rename_i hm
              split at h
              · rename_i hcond
                obtain ⟨h1, h2, h3, h4⟩ := hcond
                cases h
                obtain ⟨m', q1, q2, q3, q4, hb⟩ := bounds_run (P := P) (w := R.w) (isSlice := true) (boundA_run hl hlo) (boundA_run hhe hhi) (boundA_run hme hmx) h1 h2 h3 hlc.1 (by rw [← hmx.1, ← hhi.1]; exact fun _ => h4)
                exact ⟨.slice (if m' = l then a else a.map (·.add (l * te.size))) (hh - l) (m' - l), by simp [Instr.sliceAt, run_underlying hu, Instr.slice, hb, (ht.at hte).sizeOf R.w], trivial⟩
              · cases h
            · rename_i hm
              split at h
              · rename_i hcond
                obtain ⟨h1, h2⟩ := hcond
                cases h
                have hvm : vmx = none := by
                  cases vmx with
                  | none => rfl
                  | some x => rw [hmx.1] at hm; simp at hm
                have hmn : mx = none := by
                  cases mx with
                  | none => rfl
                  | some x => simp at hm
                subst hvm hmn
                have hml : m = len := by simp [boundA] at hme; exact hme.symm
                subst hml
                have hb : (Instr.sliceBounds true m c vlo vhi none).run P R.w = .ok (l, hh, c) R.w := by
                  rcases h2 with h2 | ⟨h2, h3⟩
                  · obtain ⟨m', q1, q2, q3, q4, hb⟩ := bounds_run (P := P) (w := R.w) (isSlice := true) (mx := none) (boundA_run hl hlo) (boundA_run hhe hhi) (.inl ⟨rfl, rfl⟩) h1 h2 (Nat.le_refl _) hlc.1 (by simp)
                    rw [q1 rfl] at hb; exact hb
                  · refine bounds_more (boundA_run hl hlo) ?_ h1 (by omega)
                    rcases boundA_run hhe hhi with ⟨k, _⟩ | k
                    · rw [hhi.1, k] at h2; cases h2
                    · exact k
                refine ⟨.slice (if c = l then a else a.map (·.add (l * te.size))) (hh - l) (c - l), by simp [Instr.sliceAt, run_underlying hu, Instr.slice, hb, (ht.at hte).sizeOf R.w], ?_⟩
                have hhc : hh ≤ c := by omega
                by_cases h0 : l = 0
                · subst h0
                  rw [if_pos rfl]
                  have ha : (if c = 0 then a else a.map (·.add (0 * te.size))) = a := by
                    split
                    · rfl
                    · cases a <;> simp [Addr.add_lit, Addr.add]
                  refine ⟨a, c, by rw [ha]; simp, r, g', f1, f2, fun e => ?_⟩
                  rcases f3 e with ⟨k1, k2, k3, k4⟩ | ⟨b, k1, k2, k3⟩
                  · exact .inl ⟨k1, by omega, k3, k4⟩
                  · exact .inr ⟨b, k1, hhc, k3⟩
                · rw [if_neg h0]
                  refine ⟨_, c - l, rfl, by omega, r, g', f1, f2, fun e => ?_⟩
                  rcases f3 e with ⟨k1, k2, k3, k4⟩ | ⟨b, k1, k2, k3⟩
                  · omega
                  · subst k3
                    refine ⟨b, c, k1, by omega, ?_⟩
                    by_cases hml : c = l
                    · left; omega
                    · right; rw [if_neg hml]; simp [Addr.add_lit, Addr.add] <;> intro h <;> exact h.symm
              · cases h
          · cases h
        · cases h
      · cases h
    · cases h
  · cases h

/-! ### Rows put in place -/
theorem splice_app {α : Type} (l : List α) (o : Nat) (new : List α) : splice l o new = l.take o ++ new ++ l.drop (o + new.length) := rfl
theorem splice_len {α : Type} (l : List α) (o : Nat) (new : List α) (h : o + new.length ≤ l.length) : (splice l o new).length = l.length := splice_length l o new h

theorem flatten_len {e : Nat} : ∀ {rows : List (List AV)}, (∀ r, r ∈ rows → r.length = e) → rows.flatten.length = rows.length * e
  | [], _ => by simp
  | r :: rs, h => by
    have h1 := h r (by simp)
    have h2 := flatten_len (rows := rs) fun r' hr => h r' (by simp [hr])
    simp only [List.flatten_cons, List.length_append, List.length_cons, h1, h2, Nat.add_mul, Nat.one_mul]
    omega

theorem putRows {w : World} {φ : Nat → Ref} {σ : Nat → Option AO} (hs : SRel ⟨w, φ, σ⟩) {n g T e b c i : Nat} {rows rows2 : List (List AV)} {vs : List Value} (hn : σ n = some (.arr T e g rows)) (hb : φ n = .arr (some (b, c)) g)
    (hv : LRel ⟨w, φ, σ⟩ rows2.flatten vs) (hr : ∀ r, r ∈ rows2 → r.length = e) (hone : ∀ u, u ∈ vs → u.oneCell' = true) (hi : i + rows2.length ≤ rows.length) :
    ∃ w', (storeCells ⟨b, i * e, none⟩ vs).run P w = .ok () w' ∧ SRel ⟨w', φ, upd σ n (some (.arr T e g (splice rows i rows2)))⟩ ∧ Ext ⟨w, φ, σ⟩ ⟨w', φ, upd σ n (some (.arr T e g (splice rows i rows2)))⟩ := by
  rcases hs.obj n _ hn with ⟨q1, q2⟩ | ⟨b', c', cur, q1, q2, q3, q4, q5, q6⟩
  · replace q1 : φ n = .arr none g := q1
    rw [hb] at q1; cases q1
  · replace q1 : φ n = .arr (some (b', c')) g := q1
    replace q2 : w.heap[b']? = some (.cells cur T (0, 0)) := q2
    rw [hb] at q1; cases q1
    have hvl : vs.length = rows2.length * e := by rw [hv.length, flatten_len hr]
    have hcur : (i + rows2.length) * e ≤ cur.size := by
      rw [q4]; exact Nat.mul_le_mul_right _ (by omega)
    rw [Nat.add_mul] at hcur
    have hfit : i * e + 0 + vs.length ≤ cur.size := by omega
    have hrun := run_storeCells_at P b (i * e) T vs 0 cur w q2 hfit hone
    simp only [Nat.add_zero] at hrun hfit
    replace hrun : (storeCells ⟨b, i * e, none⟩ vs).run P w = .ok () (w.setRow b (splice cur.toList (i * e) vs).toArray) := hrun
    refine ⟨_, hrun, ?_⟩
    have hφ : upd φ n (.arr (some (b, c)) g) = φ := upd_self φ n hb
    have hold : oldAt φ σ n = some b := by simp [oldAt, hn, hb, Ref.at]
    have hfit' : i * e + vs.length ≤ cur.toList.length := by simpa using hfit
    have hx := Ext.turn (w := w) (w' := w.setRow b (splice cur.toList (i * e) vs).toArray) (φ := φ) (σ := σ) (n := n) (ρ := .arr (some (b, c)) g) (.arr T e g (splice rows i rows2)) (by simp) rfl rfl rfl (by rw [hb]; exact Ref.le_refl _)
      (fun k _ hne => setRow_other w b k _ (fun e => hne (by rw [e, hold]))) (fun b' e => .inl (by cases e; exact hold))
    have hs' := SRel.turn (w' := w.setRow b (splice cur.toList (i * e) vs).toArray) hs (n := n) (ρ := .arr (some (b, c)) g) (y := .arr T e g (splice rows i rows2)) (by simp) rfl rfl rfl (by rw [hb]; exact Ref.le_refl _)
      (fun k _ hne => setRow_other w b k _ (fun e => hne (by rw [e, hold]))) (fun b' e => .inl (by cases e; exact hold))
      (.inr ⟨b, c, _, upd_same _ _ _, setRow_heap w b cur _ T _ q2, q3, by simp [splice_length cur.toList (i * e) vs hfit', q4], by rw [splice_length _ _ _ hi]; exact q5, by
        show RowsAt _ b e 0 (rows.take i ++ rows2 ++ rows.drop (i + rows2.length))
        have htl : (rows.take i).length = i := by simp; omega
        refine RowsAt.append (RowsAt.append ?_ ?_) ?_
        · refine RowsAt.of_get fun j r hj => ?_
          have hjl : j < i := by have := (List.getElem?_eq_some_iff.1 hj).1; omega
          rw [List.getElem?_take, if_pos hjl] at hj
          obtain ⟨s1, s2⟩ := RowsAt.get j q6 hj
          refine ⟨s1, CellsAt.beside hx (o := i * e) q2 s2 ?_ (by simpa using hfit) rfl⟩
          left
          have : (j + 1) * e ≤ i * e := Nat.mul_le_mul_right _ hjl
          rw [Nat.succ_mul] at this
          omega
        · rw [htl]
          refine RowsAt.of_flat hr (LRel.mono hx _ _ hv) fun j u hj => ?_
          have hjl := (List.getElem?_eq_some_iff.1 hj).1
          rw [setRow_cell q2, splice_get _ _ _ hfit', if_neg (by omega), if_pos (by omega), show 0 + i * e + j - i * e = j by omega]
          exact hj
        · refine RowsAt.of_get fun j r hj => ?_
          rw [List.getElem?_drop] at hj
          obtain ⟨s1, s2⟩ := RowsAt.get _ q6 hj
          have hpos : 0 + (rows.take i ++ rows2).length * e + j * e = 0 + (i + rows2.length + j) * e := by
            rw [List.length_append, htl, Nat.add_mul (i + rows2.length) j]; omega
          rw [hpos]
          refine ⟨s1, CellsAt.beside hx (o := i * e) q2 s2 ?_ (by simpa using hfit) rfl⟩
          right
          rw [hvl, Nat.add_mul (i + rows2.length) j, Nat.add_mul i]
          omega⟩)
    rw [hφ] at hs' hx
    exact ⟨hs', hx⟩

/-- Appending to a part of an array where there is room. -/
def appendIn (tt : Nat → Option TI) (σ : Nat → Option AO) (T : Nat) (s x : AV) : Option (AV × (Nat → Option AO)) :=
  match tt T with
  | some ti => match ti.d with
    | .slice e => match tt e with
      | some te => match srcA σ te.size x with
        | some rows2 =>
          if rowsOk te.size rows2 = true then
            match s with
            | .os n g len => match σ n with
              | some (.arr T' e' g' rows) => if g = g' ∧ e' = te.size ∧ len + rows2.length ≤ rows.length then some (.os n g (len + rows2.length), upd σ n (some (.arr T' e' g' (splice rows len rows2)))) else none
              | _ => none
            | _ => none
          else none
        | none => none
      | none => none
    | _ => none
  | none => none
theorem appendIn_sound (ht : TTok P tt) {w : World} {φ : Nat → Ref} {σ σ' : Nat → Option AO} (hs : SRel ⟨w, φ, σ⟩) {T ty : Nat} {s x y : AV} {v u : Value} (h : appendIn tt σ T s x = some (y, σ'))
    (hsv : VRel ⟨w, φ, σ⟩ s v) (hxu : VRel ⟨w, φ, σ⟩ x u) : ∃ z w', (Builtin.append_ #[T, T] ty #[v, u]).run P w = .ok z w' ∧ VRel ⟨w', φ, σ'⟩ y z ∧ SRel ⟨w', φ, σ'⟩ ∧ Ext ⟨w, φ, σ⟩ ⟨w', φ, σ'⟩ := by
  unfold appendIn at h
  split at h
  · rename_i ti hT
    split at h
    · rename_i e hd
      have hu := (ht.at hT).slice hd
      split at h
      · rename_i te hte
        have tes := ht.at hte
        split at h
        · rename_i rows2 hsrc
          split at h
          · rename_i hall
            have hr2 : ∀ r, r ∈ rows2 → r.length = te.size := fun r hr => by
              have := List.all_eq_true.1 hall r hr
              simp only [Bool.and_eq_true, beq_iff_eq] at this
              exact this.1
            split at h
            · rename_i n g len
              split at h
              · rename_i T' e' g' rows hn
                split at h
                · rename_i hc
                  obtain ⟨rfl, rfl, hle⟩ := hc
                  cases h
                  obtain ⟨a, c, rfl, r, g2, h1, h2, h3⟩ := hsv
                  replace h1 : φ n = .arr r g2 := h1
                  have hobj := hs.obj n _ hn
                  have hgg : g2 = g := by rcases hobj with ⟨q1, _⟩ | ⟨b, c', cur, q1, _⟩ <;> (replace q1 : φ n = _ := q1; rw [h1] at q1; cases q1; rfl)
                  subst hgg
                  rcases srcA_sound hs (e := te.size) hsrc hxu hr2 with ⟨rfl, a2, c2, rfl⟩ | ⟨b2, off2, c2, vs2, rfl, k1, k2, k3⟩
                  · -- nothing is appended
                    have hlc : len ≤ c := by
                      rcases h3 rfl with ⟨_, k2, _⟩ | ⟨_, _, k2, _⟩
                      · omega
                      · exact k2
                    have hsame : upd σ n (some (.arr T' te.size g2 (splice rows len []))) = σ := by
                      refine upd_self σ n ?_
                      rw [hn]; simp [splice]
                    rw [hsame]
                    exact ⟨_, w, append_none hu (tes.sizeOf w) hlc, ⟨a, c, by simp, r, g2, h1, Nat.le_refl _, by simpa using h3⟩, hs, Ext.refl _⟩
                  · rcases h3 rfl with ⟨rfl, k4, _⟩ | ⟨b, rfl, hlc, rfl⟩
                    · rcases hobj with ⟨_, q2⟩ | ⟨b, c', cur, q1, _⟩
                      · subst q2
                        have : rows2 = [] := List.eq_nil_of_length_eq_zero (by have hle' : len + rows2.length ≤ 0 := hle; omega)
                        subst this
                        have hlc : len ≤ c := by
                          rcases h3 rfl with ⟨_, k2, _⟩ | ⟨_, _, k2, _⟩
                          · omega
                          · exact k2
                        have hsame : upd σ n (some (.arr T' te.size g2 (splice [] len []))) = σ := by
                          refine upd_self σ n ?_
                          rw [hn]; simp [splice]
                        rw [hsame]
                        exact ⟨_, w, append_none hu (tes.sizeOf w) hlc, ⟨a, c, by simp, none, g2, h1, Nat.le_refl _, by simpa using h3⟩, hs, Ext.refl _⟩
                      · replace q1 : φ n = _ := q1; rw [h1] at q1; cases q1
                    · have hone := (rows_one hall k1).2
                      have hcap : rows.length ≤ c := by
                        rcases hobj with ⟨q1, _⟩ | ⟨b', c', cur, q1, _, _, _, q5, _⟩
                        · replace q1 : φ n = _ := q1; rw [h1] at q1; cases q1
                        · replace q1 : φ n = _ := q1; rw [h1] at q1; cases q1; exact q5
                      obtain ⟨w', e1, e2, e3⟩ := putRows (P := P) hs hn h1 k1 hr2 hone hle
                      refine ⟨.slice (some ⟨b, 0, none⟩) (len + rows2.length) c, w', ?_, ⟨_, c, rfl, _, g2, h1, Nat.le_refl _, fun _ => .inr ⟨b, rfl, by omega, rfl⟩⟩, e2, e3⟩
                      have hf : (Builtin.firstCells te.size rows2.length (.slice (some ⟨b2, off2, none⟩) rows2.length c2)).run P w = .ok vs2.toArray w := by
                        have := run_loadCells_list (P := P) w ⟨b2, off2, none⟩ vs2 (fun j q hq => by rw [Addr.add_lit]; exact k3 j q hq)
                        rw [k2] at this
                        simpa [Builtin.firstCells] using this
                      have hadd : (⟨b, 0, none⟩ : Addr).add (len * te.size) = ⟨b, len * te.size, none⟩ := by rw [Addr.add_lit]; simp
                      simp [Builtin.append_, run_underlying hu, tes.sizeOf w, Builtin.lenOf, show len + rows2.length ≤ c by omega, hf, hadd, e1]
                · cases h
              · cases h
            · cases h
          · cases h
        · cases h
      · cases h
    · cases h
  · cases h

/-- A part from the array's head on is a window too. -/
def asOw (e : Nat) : AV → AV
  | .os n g len => .ow n g e 0 len
  | x => x
theorem asOw_rel {R : Env} (hs : SRel R) {e : Nat} {x : AV} {v : Value} (h : VRel R x v) (hc : ∀ n g len, x = .os n g len → ∃ T e' rows, R.σ n = some (.arr T e' g rows) ∧ rows ≠ []) : VRel R (asOw e x) v := by
  cases x <;> try exact h
  rename_i n g len
  obtain ⟨T, e', rows, hn, hne⟩ := hc n g len rfl
  obtain ⟨a, c, rfl, r, g', f1, f2, f3⟩ := h
  rcases hs.obj n _ hn with ⟨_, k'⟩ | ⟨b, c', cur, k, _, _, _, k5, _⟩
  · exact absurd k' hne
  · rw [f1] at k; cases k
    rcases f3 rfl with ⟨k1, _⟩ | ⟨b', k1, k2, rfl⟩
    · cases k1
    · cases k1
      exact ⟨_, c, rfl, k2, _, g, f1, f2, fun _ => ⟨b, c, rfl, by omega, .inr (by simp)⟩⟩
def clearS (tt : Nat → Option TI) (σ : Nat → Option AO) (T : Nat) (x : AV) : Option (Nat → Option AO) :=
  match tt T with
  | some ti => match ti.d with
    | .slice e => match tt e with
      | some te => match asOw te.size x with
        | .ow n g e' off len => match σ n with
          | some (.arr T' e2 g' rows) => if g = g' ∧ e2 = te.size ∧ e' = te.size ∧ off + len ≤ rows.length ∧ te.zero.all AV.one = true ∧ 0 < rows.length then some (upd σ n (some (.arr T' e2 g' (splice rows off (List.replicate len te.zero))))) else none
          | _ => none
        | _ => none
      | none => none
    | _ => none
  | none => none

theorem flat_rep {α : Type} (zs : List α) : ∀ (n i : Nat), i < n * zs.length → (List.replicate n zs).flatten[i]? = zs[i % zs.length]?
  | 0, i, h => by simp at h
  | n + 1, i, h => by
    rw [List.replicate_succ, List.flatten_cons]
    by_cases hi : i < zs.length
    · rw [List.getElem?_append_left hi, Nat.mod_eq_of_lt hi]
    · rw [Nat.add_mul] at h
      rw [List.getElem?_append_right (by omega), flat_rep zs n _ (by omega), Nat.mod_eq_sub_mod (show i ≥ zs.length by omega)]
theorem zeroCells_list {zs : Array Value} (n : Nat) : (Builtin.zeroCells zs n).toList = (List.replicate n zs.toList).flatten := by
  apply List.ext_getElem?
  intro i
  by_cases hi : i < n * zs.size
  · rw [flat_rep _ _ _ (by simpa using hi)]
    have hpos : 0 < zs.size := Nat.pos_of_ne_zero fun e => by rw [e] at hi; simp at hi
    have hlt : i % zs.size < zs.size := Nat.mod_lt _ hpos
    simp [Builtin.zeroCells, hi, hlt]
  · rw [List.getElem?_eq_none (by simp [Builtin.zeroCells]; omega), List.getElem?_eq_none (by simp; omega)]
theorem LRel.rep {R : Env} {xs : List AV} {vs : List Value} (h : LRel R xs vs) : ∀ (n : Nat), LRel R (List.replicate n xs).flatten (List.replicate n vs).flatten
  | 0 => by simp [LRel]
  | n + 1 => by simp only [List.replicate_succ, List.flatten_cons]; exact LRel.append h (LRel.rep h n)

theorem clearS_sound (ht : TTok P tt) {w : World} {φ : Nat → Ref} {σ σ' : Nat → Option AO} (hs : SRel ⟨w, φ, σ⟩) {T ty : Nat} {x : AV} {u : Value} (h : clearS tt σ T x = some σ') (hxu : VRel ⟨w, φ, σ⟩ x u) :
    ∃ w', (Builtin.clear_ #[T] ty #[u]).run P w = .ok (.tuple #[]) w' ∧ SRel ⟨w', φ, σ'⟩ ∧ Ext ⟨w, φ, σ⟩ ⟨w', φ, σ'⟩ := by
  unfold clearS at h
  split at h
  · rename_i ti hT
    split at h
    · rename_i e hd
      have hu := (ht.at hT).slice hd
      split at h
      · rename_i te hte
        have tes := ht.at hte
        split at h
        · rename_i n g e' off len hxo
          split at h
          · rename_i T' e2 g' rows hn
            split at h
            · rename_i hc
              obtain ⟨rfl, rfl, rfl, hle, hone, hrp⟩ := hc
              cases h
              have hxu := asOw_rel hs (e := te.size) hxu fun n' g' len' hx' => by
                subst hx'
                simp only [asOw, AV.ow.injEq] at hxo
                obtain ⟨rfl, rfl, _, _, rfl⟩ := hxo
                exact ⟨_, _, _, hn, fun e => by rw [e] at hrp; simp at hrp⟩
              rw [hxo] at hxu
              obtain ⟨a, c, rfl, hlc, r, g2, h1, h2, h3⟩ := hxu
              replace h1 : φ n = .arr r g2 := h1
              have hobj := hs.obj n _ hn
              have hgg : g2 = g := by rcases hobj with ⟨q1, _⟩ | ⟨b, c', cur, q1, _⟩ <;> (replace q1 : φ n = _ := q1; rw [h1] at q1; cases q1; rfl)
              subst hgg
              obtain ⟨b, cap, rfl, hcap, haddr⟩ := h3 rfl
              obtain ⟨z, hz1, hz2⟩ := tes.zeroValue w
              have hzl := hz2 ⟨w, φ, σ⟩
              have hvs := LRel.rep hzl len
              have hzone : ∀ u, u ∈ (List.replicate len z.cells.toList).flatten → u.oneCell' = true := fun u hu => by
                obtain ⟨l, hl, hul⟩ := List.mem_flatten.1 hu
                rw [(List.mem_replicate.1 hl).2] at hul
                exact LRel.one hzl hone u hul
              obtain ⟨w', e1, e2, e3⟩ := putRows (P := P) (i := off) hs hn h1 hvs (fun r hr => by rw [(List.mem_replicate.1 hr).2]; exact tes.len) hzone (by simpa using hle)
              by_cases h0 : len = 0
              · subst h0
                have hsame : upd σ n (some (.arr T' te.size g2 (splice rows off (List.replicate 0 te.zero)))) = σ := by
                  refine upd_self σ n ?_
                  rw [hn]; simp [splice]
                rw [hsame]
                exact ⟨w, by cases a <;> simp [Builtin.clear_, run_underlying hu], hs, Ext.refl _⟩
              · rcases haddr with hc0 | rfl
                · omega
                · refine ⟨w', ?_, e2, e3⟩
                  cases len with
                  | zero => exact absurd rfl h0
                  | succ k => simp [Builtin.clear_, run_underlying hu, hz1, zeroCells_list, e1]
            · cases h
          · cases h
        · cases h
      · cases h
    · cases h
  · cases h

end Go.Ab
