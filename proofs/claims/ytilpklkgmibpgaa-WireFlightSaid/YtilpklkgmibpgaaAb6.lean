/- Ab6: append; maps whose keys are whole numbers. -/
import Derived.Test.YtilpklkgmibpgaaAb5
import Derived.Maps.AppendAt
namespace Go.Ab
open Go.RowKit
set_option linter.unusedVariables false
set_option linter.unusedSimpArgs false
variable {P : Program} {tt : Nat → Option TI}

def srcA (σ : Nat → Option AO) (e : Nat) : AV → Option (List (List AV))
  | .sl rows => some rows
  | .nils => some []
  | .sle => some []
  | .ow n g e' off len => match σ n with
    | some (.arr _ e2 g' rows) => if g = g' ∧ e2 = e ∧ e' = e ∧ off + len ≤ rows.length then some ((rows.drop off).take len) else none
    | _ => none
  | .os n g len => match σ n with
    | some (.arr _ e' g' rows) => if g = g' ∧ e = e' ∧ len ≤ rows.length then some (rows.take len) else none
    | _ => none
  | _ => none

/-- What is appended: where it stands. -/
theorem srcA_sound {R : Env} (hs : SRel R) {e : Nat} {x : AV} {rows : List (List AV)} {v : Value} (h : srcA R.σ e x = some rows) (hx : VRel R x v) (hr : ∀ r, r ∈ rows → r.length = e) :
    (rows = [] ∧ ∃ a c, v = .slice a 0 c) ∨ ∃ b off c vs, v = .slice (some ⟨b, off, none⟩) rows.length c ∧ LRel R rows.flatten vs ∧ vs.length = rows.length * e ∧ ∀ j u, vs[j]? = some u → R.w.cell? ⟨b, off + j, none⟩ = some u := by
  unfold srcA at h
  split at h
  · rename_i rows'
    cases h
    obtain ⟨a, c, rfl, hc, hh⟩ := hx
    rcases hh with ⟨hh, _⟩ | ⟨b, off, e', rfl, h1, h2, h3⟩
    · subst hh; exact .inl ⟨rfl, a, c, rfl⟩
    · cases rows with
      | nil => exact .inl ⟨rfl, _, c, rfl⟩
      | cons r rs =>
        have : e' = e := by rw [← hr r (by simp)]; exact (h3.1).symm
        subst this
        obtain ⟨vs, k1, k2, k3⟩ := flat_of h3
        exact .inr ⟨b, off, c, vs, rfl, k1, k2, k3⟩
  · cases h; obtain rfl : v = _ := hx; exact .inl ⟨rfl, none, 0, rfl⟩
  · cases h; obtain ⟨a, c, rfl⟩ := hx; exact .inl ⟨rfl, _, c, rfl⟩
  · rename_i n g e' off len
    split at h
    · rename_i T e2 g' rows' hn
      split at h
      · rename_i hc
        obtain ⟨rfl, rfl, rfl, hlen⟩ := hc
        cases h
        obtain ⟨a, c, rfl, hcl, r, g2, h1, h2, h3⟩ := hx
        have hll : ((rows'.drop off).take len).length = len := by simp; omega
        rcases hs.obj n _ hn with ⟨q1, q2⟩ | ⟨b, c', cur, q1, q2, q3, q4, q5, q6⟩
        · subst q2
          have : len = 0 := by simp at hlen; omega
          subst this
          exact .inl ⟨by simp, a, c, rfl⟩
        · rw [h1] at q1; cases q1
          obtain ⟨b', cap, h4, h5, h6⟩ := h3 rfl
          cases h4
          by_cases h0 : len = 0
          · subst h0; exact .inl ⟨by simp, a, c, rfl⟩
          · rcases h6 with h6 | rfl
            · omega
            · obtain ⟨vs, k1, k2, k3⟩ := flat_of (RowsAt.take len (RowsAt.drop off q6))
              simp only [Nat.zero_add] at k3
              exact .inr ⟨b, _, c, vs, by rw [hll], k1, k2, k3⟩
      · cases h
    · cases h
  · rename_i n g len
    split at h
    · rename_i T' e' g' rows' hn
      split at h
      · rename_i hc
        obtain ⟨rfl, rfl, hlen⟩ := hc
        cases h
        obtain ⟨a, c, rfl, r, g2, h1, h2, h3⟩ := hx
        rcases hs.obj n _ hn with ⟨q1, q2⟩ | ⟨b, c', cur, q1, q2, q3, q4, q5, q6⟩
        · subst q2
          simp at hlen
          subst hlen
          exact .inl ⟨by simp, a, c, rfl⟩
        · rw [h1] at q1; cases q1
          rcases h3 rfl with ⟨h4, _⟩ | ⟨b', h4, h5, rfl⟩
          · cases h4
          · cases h4
            obtain ⟨vs, k1, k2, k3⟩ := flat_of (RowsAt.take len q6)
            have : (rows'.take len).length = len := by simp; omega
            exact .inr ⟨b, 0, c, vs, by rw [this], k1, k2, k3⟩
      · cases h
    · cases h
  · cases h

/-- Rows as they may be laid in memory. -/
def rowsOk (e : Nat) (rows : List (List AV)) : Bool := rows.all fun r => r.length == e && r.all AV.one
theorem rowsOk_nil {e : Nat} : rowsOk e [] = true := rfl
theorem rowsOk_cons {e : Nat} {r : List AV} {rs : List (List AV)} : rowsOk e (r :: rs) = (r.length == e && r.all AV.one && rowsOk e rs) := rfl
theorem rowsOk_append {e : Nat} {rs ss : List (List AV)} : rowsOk e (rs ++ ss) = (rowsOk e rs && rowsOk e ss) := by simp [rowsOk]
theorem rowsOk_take {e n : Nat} {rs : List (List AV)} (h : rowsOk e rs = true) : rowsOk e (rs.take n) = true := by
  rw [rowsOk, List.all_eq_true] at h ⊢
  exact fun r hr => h r (List.mem_of_mem_take hr)
theorem rowsOk_drop {e n : Nat} {rs : List (List AV)} (h : rowsOk e rs = true) : rowsOk e (rs.drop n) = true := by
  rw [rowsOk, List.all_eq_true] at h ⊢
  exact fun r hr => h r (List.mem_of_mem_drop hr)
theorem rowsOk_get {e : Nat} {rs : List (List AV)} (h : rowsOk e rs = true) {i : Nat} {r : List AV} (hi : rs[i]? = some r) : r.length = e ∧ r.all AV.one = true := by
  rw [rowsOk, List.all_eq_true] at h
  simpa using h r (List.mem_of_getElem? hi)
theorem rowsLen_of_ok {e : Nat} {rs : List (List AV)} (h : rowsOk e rs = true) : rowsLen e rs = true := by
  rw [rowsOk, List.all_eq_true] at h
  rw [rowsLen, List.all_eq_true]
  intro r hr
  have := h r hr
  simp only [Bool.and_eq_true] at this
  exact this.1
def appendA (tt : Nat → Option TI) (σ : Nat → Option AO) (nm : Nat) (T : Nat) (s x : AV) : Option (AV × (Nat → Option AO)) :=
  match tt T with
  | some ti => match ti.d with
    | .slice e => match tt e with
      | some te => match srcA σ te.size x with
        | some rows2 =>
          if 0 < te.size ∧ rowsOk te.size rows2 = true then
            match s with
            | .os n g len => match σ n with
              | some (.arr T' e' g' rows) =>
                if g = g' ∧ e' = te.size ∧ T' = e ∧ len = rows.length ∧ len + rows2.length ≤ maxLen ∧ (len + rows2.length) * te.bytes ≤ 140737488355328 then
                  some (.os n (g + 1) (len + rows2.length), upd σ n (some (.arr e te.size (g + 1) (rows ++ rows2))))
                else none
              | _ => none
            | .nils => if rows2.length ≤ maxLen ∧ rows2.length * te.bytes ≤ 140737488355328 then some (.os nm 0 rows2.length, upd σ nm (some (.arr e te.size 0 rows2))) else none
            | _ => none
          else none
        | none => none
      | none => none
    | _ => none
  | none => none

theorem append_none {t ty e : TypeId} (hu : P.underlying t = some (.slice e)) {w : World} {size : Nat} (hz : (sizeOf e).run P w = .ok size w) {base a : Option Addr} {n cap c : Nat} (hle : n ≤ cap) :
    (Builtin.append_ #[t, t] ty #[.slice base n cap, .slice a 0 c]).run P w = .ok (.slice base n cap) w := by
  have hf : (Builtin.firstCells size 0 (.slice a 0 c)).run P w = .ok #[] w := by cases a <;> simp [Builtin.firstCells, loadCells, loadCellsFrom]
  cases base <;> simp [Builtin.append_, run_underlying hu, hz, Builtin.lenOf, hle, hf, storeCells]

theorem rows_one {R : Env} {rows : List (List AV)} {vs : List Value} {e : Nat} (h : rows.all (fun r => r.length == e && r.all AV.one) = true) (hv : LRel R rows.flatten vs) :
    (∀ r, r ∈ rows → r.length = e) ∧ ∀ u, u ∈ vs → u.oneCell' = true := by
  refine ⟨fun r hr => ?_, LRel.one hv ?_⟩
  · have := List.all_eq_true.1 h r hr
    simp only [Bool.and_eq_true, beq_iff_eq] at this
    exact this.1
  · rw [List.all_eq_true]
    intro x hx
    obtain ⟨r, hr, hxr⟩ := List.mem_flatten.1 hx
    have := List.all_eq_true.1 h r hr
    simp only [Bool.and_eq_true, beq_iff_eq] at this
    exact List.all_eq_true.1 this.2 x hxr

theorem RowsAt.lengths {R : Env} {b e : Nat} : ∀ {rs : List (List AV)} {off : Nat}, RowsAt R b e off rs → ∀ r, r ∈ rs → r.length = e
  | [], _, _, r, hr => by cases hr
  | s :: rs, off, h, r, hr => by
    obtain ⟨h1, _, h3⟩ := h
    cases hr with
    | head => exact h1
    | tail _ hr => exact RowsAt.lengths h3 r hr

theorem appendA_sound (ht : TTok P tt) {w : World} {φ : Nat → Ref} {σ σ' : Nat → Option AO} (hs : SRel ⟨w, φ, σ⟩) {nm T ty : Nat} {s x y : AV} {v u : Value} (h : appendA tt σ nm T s x = some (y, σ'))
    (hsv : VRel ⟨w, φ, σ⟩ s v) (hxu : VRel ⟨w, φ, σ⟩ x u) (hn : s = .nils → φ nm = .unset) :
    ∃ z w' φ', (Builtin.append_ #[T, T] ty #[v, u]).run P w = .ok z w' ∧ (∀ m, φ m = .unset → (m ≠ nm ∨ s ≠ .nils) → φ' m = .unset) ∧ VRel ⟨w', φ', σ'⟩ y z ∧ SRel ⟨w', φ', σ'⟩ ∧ Ext ⟨w, φ, σ⟩ ⟨w', φ', σ'⟩ := by
  unfold appendA at h
  split at h
  · rename_i ti hT
    split at h
    · rename_i e hd
      have hu := (ht.at hT).slice hd
      split at h
      · rename_i te hte
        have tes := ht.at hte
        split at h
        · rename_i rows2 hsrc
          split at h
          · rename_i hc0
            obtain ⟨hsz0, hall⟩ := hc0
            have hr2 : ∀ r, r ∈ rows2 → r.length = te.size := fun r hr => by
              have := List.all_eq_true.1 hall r hr
              simp only [Bool.and_eq_true, beq_iff_eq] at this
              exact this.1
            have hsrc' := srcA_sound hs (e := te.size) hsrc hxu hr2
            obtain ⟨fi, z0, d0, i1, i2, i3, i4, i5, i6, i7, i8⟩ := tes.info
            have hzs : z0.cells.size = te.size := by have := (i6 ⟨w, φ, σ⟩).length; rw [tes.len] at this; simpa using this
            split at h
            · rename_i n g len
              split at h
              · rename_i T' e' g' rows hrow
                split at h
                · rename_i hc1
                  obtain ⟨rfl, rfl, rfl, rfl, hml, hby⟩ := hc1
                  cases h
                  obtain ⟨a, c, rfl, r, g2, h1, h2, h3⟩ := hsv
                  replace h1 : φ n = .arr r g2 := h1
                  -- how the array lies
                  have hobj := hs.obj n _ hrow
                  have hgg : g2 = g := by rcases hobj with ⟨q1, _⟩ | ⟨b, c', cur, q1, _⟩ <;> (replace q1 : φ n = _ := q1; rw [h1] at q1; cases q1; rfl)
                  subst hgg
                  have hplace := h3 rfl
                  -- the outcome, told once
                  have fin : ∀ (z : Value) (w' : World) (r' : Option (Nat × Nat)) (xs' : List Value), (Builtin.append_ #[T, T] ty #[.slice a rows.length c, u]).run P w = .ok z w' →
                      w.heap.size ≤ w'.heap.size → w'.os = w.os → w'.tape = w.tape → w'.output = w.output →
                      (∀ k, k < w.heap.size → oldAt φ σ n ≠ some k → w'.heap[k]? = w.heap[k]?) → (∀ b, (Ref.arr r' (g2 + 1)).at = some b → oldAt φ σ n = some b ∨ w.heap.size ≤ b) →
                      LRel ⟨w, φ, σ⟩ (rows ++ rows2).flatten xs' →
                      ((r' = none ∧ z = .slice none 0 0 ∧ rows ++ rows2 = []) ∨ ∃ b' cap cur, r' = some (b', cap) ∧ z = .slice (some ⟨b', 0, none⟩) (rows.length + rows2.length) cap ∧ w'.heap[b']? = some (.cells cur T' (0, 0)) ∧
                        rows.length + rows2.length ≤ cap ∧ cap ≤ maxLen ∧ cur.size = cap * te.size ∧ cur.toList.take ((rows.length + rows2.length) * te.size) = xs') →
                      ∃ z w' φ', (Builtin.append_ #[T, T] ty #[.slice a rows.length c, u]).run P w = .ok z w' ∧ (∀ m, φ m = .unset → (m ≠ nm ∨ AV.os n g2 rows.length ≠ .nils) → φ' m = .unset) ∧
                        VRel ⟨w', φ', upd σ n (some (.arr T' te.size (g2 + 1) (rows ++ rows2)))⟩ (.os n (g2 + 1) (rows.length + rows2.length)) z ∧ SRel ⟨w', φ', upd σ n (some (.arr T' te.size (g2 + 1) (rows ++ rows2)))⟩ ∧
                        Ext ⟨w, φ, σ⟩ ⟨w', φ', upd σ n (some (.arr T' te.size (g2 + 1) (rows ++ rows2)))⟩ := by
                    intro z w' r' xs' hrun e1 e2 e3 e4 hk hat hxs hform
                    have hle : (φ n).le (.arr r' (g2 + 1)) := by rw [h1]; exact ⟨r', g2 + 1, rfl, .inl (by omega)⟩
                    have hx' := Ext.turn (w := w) (w' := w') (φ := φ) (σ := σ) (n := n) (ρ := .arr r' (g2 + 1)) (.arr T' te.size (g2 + 1) (rows ++ rows2)) e1 e2 e3 e4 hle hk hat
                    have hrl : ∀ r, r ∈ rows ++ rows2 → r.length = te.size := by
                      intro r hr
                      rcases List.mem_append.1 hr with k | k
                      · rcases hobj with ⟨_, q2⟩ | ⟨b, c', cur, _, _, _, _, _, q6⟩
                        · subst q2; cases k
                        · exact RowsAt.lengths q6 r k
                      · exact hr2 r k
                    refine ⟨z, w', _, hrun, fun m hm hne => ?_, ?_, SRel.turn hs e1 e2 e3 e4 hle hk hat ?_, hx'⟩
                    · by_cases e : m = n
                      · subst e; rw [h1] at hm; cases hm
                      · rw [upd_ne _ _ e]; exact hm
                    · rcases hform with ⟨rfl, rfl, hnil⟩ | ⟨b', cap, cur, rfl, rfl, f1, f2, f3, f4, f5⟩
                      · have : rows.length + rows2.length = 0 := by rw [← List.length_append, hnil]; rfl
                        rw [this]
                        exact ⟨none, 0, rfl, none, g2 + 1, upd_same _ _ _, Nat.le_refl _, fun _ => .inl ⟨rfl, rfl, rfl, rfl⟩⟩
                      · exact ⟨_, cap, rfl, _, g2 + 1, upd_same _ _ _, Nat.le_refl _, fun _ => .inr ⟨b', rfl, f2, rfl⟩⟩
                    · rcases hform with ⟨rfl, rfl, hnil⟩ | ⟨b', cap, cur, rfl, rfl, f1, f2, f3, f4, f5⟩
                      · exact .inl ⟨upd_same _ _ _, hnil⟩
                      · refine .inr ⟨b', cap, cur, upd_same _ _ _, f1, f3, f4, by simpa using f2, RowsAt.of_flat hrl (LRel.mono hx' _ _ hxs) fun j q k => ?_⟩
                        rw [cell_of_row _ _ _ _ _ _ f1]
                        rw [← f5, List.getElem?_take] at k
                        split at k
                        · simpa using k
                        · cases k
                  rcases hsrc' with ⟨rfl, a2, c2, rfl⟩ | ⟨b2, off2, c2, vs2, rfl, k1, k2, k3⟩
                  · -- nothing is appended
                    rcases hplace with ⟨rfl, hl0, rfl, rfl⟩ | ⟨b, rfl, hlc, rfl⟩
                    · have hrn : rows = [] := List.eq_nil_of_length_eq_zero hl0
                      refine fin _ w none [] (append_none hu (tes.sizeOf w) (by omega)) (Nat.le_refl _) rfl rfl rfl (fun _ _ _ => rfl) (by simp [Ref.at]) (by simp [hrn, LRel]) (.inl ⟨rfl, by rw [hl0], by simp [hrn]⟩)
                    · rcases hobj with ⟨q1, _⟩ | ⟨b', c', cur, q1, q2, q3, q4, q5, q6⟩
                      · replace q1 : φ n = _ := q1; rw [h1] at q1; cases q1
                      · replace q1 : φ n = _ := q1; rw [h1] at q1; cases q1
                        obtain ⟨vs, r1, r2, r3⟩ := flat_of q6
                        have hold : oldAt φ σ n = some b := by simp [oldAt, hrow, h1, Ref.at]
                        refine fin _ w (some (b, c)) vs (append_none hu (tes.sizeOf w) hlc) (Nat.le_refl _) rfl rfl rfl (fun _ _ _ => rfl) (fun b' e => .inl (by cases e; exact hold)) (by simpa using r1)
                          (.inr ⟨b, c, cur, rfl, by simp, q2, by simpa using hlc, q3, q4, ?_⟩)
                        apply List.ext_getElem?
                        intro j
                        rw [List.getElem?_take]
                        split
                        · rename_i hj
                          have hj' : j < vs.length := by rw [r2]; simpa using hj
                          have := r3 j _ (List.getElem?_eq_getElem hj')
                          rw [cell_of_row _ _ _ _ _ _ q2] at this
                          rw [List.getElem?_eq_getElem hj']
                          simpa using this
                        · rename_i hj
                          rw [List.getElem?_eq_none (by rw [r2]; simpa using hj)]
                  · -- something is appended
                    have hone := (rows_one hall k1).2
                    rcases hplace with ⟨rfl, hl0, rfl, rfl⟩ | ⟨b, rfl, hlc, rfl⟩
                    · have hrn : rows = [] := List.eq_nil_of_length_eq_zero hl0
                      subst hrn
                      obtain ⟨v', w', hrun, ho, hg, hnil, hblk⟩ := run_append_own_at (P := P) w 0 T ty T' fi z0 te.size te.bytes hu i1 i5 i3 i4 hzs hsz0 (.slice none 0 0) 0 [] (World.ownsRow_nil w 0 T' te.size) ⟨b2, off2, none⟩ rows2.length c2 vs2 k2
                        (fun j q hq => by rw [Addr.add_lit]; exact k3 j q hq) hone (by simpa using hml) (by simpa using hby) (Nat.zero_le _)
                      obtain ⟨o1, o2⟩ := ho
                      rcases o2 with ⟨rfl, hz⟩ | ⟨b', cap, cur, rfl, _, f1, f2, f3, f4, f5⟩
                      · have : rows2 = [] := List.eq_nil_of_length_eq_zero (by simpa using hz)
                        subst this
                        refine fin _ w' none [] hrun hg.size hg.os hg.tape hg.output (fun k hk _ => hg.block k hk (by simp [Value.ownBlock])) (by simp [Ref.at]) (by simp [LRel]) (.inl ⟨rfl, rfl, rfl⟩)
                      · refine fin _ w' (some (b', cap)) vs2 hrun hg.size hg.os hg.tape hg.output (fun k hk _ => hg.block k hk (by simp [Value.ownBlock])) (fun b e => .inr ?_) (by simpa using k1)
                          (.inr ⟨b', cap, cur, rfl, by simp, f1, by simpa using f2, f3, f4, by simpa using f5⟩)
                        cases e
                        simp only [Value.ownBlock, Option.some.injEq] at hblk
                        rcases hblk with hblk | hblk
                        · cases hblk
                        · rw [hblk]; exact Nat.le_refl _
                    · rcases hobj with ⟨q1, _⟩ | ⟨b', c', cur0, q1, q2, q3, q4, q5, q6⟩
                      · replace q1 : φ n = _ := q1; rw [h1] at q1; cases q1
                      · replace q1 : φ n = _ := q1; rw [h1] at q1; cases q1
                        obtain ⟨vs, r1, r2, r3⟩ := flat_of q6
                        have hold : oldAt φ σ n = some b := by simp [oldAt, hrow, h1, Ref.at]
                        have htk : cur0.toList.take (rows.length * te.size) = vs := by
                          apply List.ext_getElem?
                          intro j
                          rw [List.getElem?_take]
                          split
                          · rename_i hj
                            have hj' : j < vs.length := by rw [r2]; exact hj
                            have := r3 j _ (List.getElem?_eq_getElem hj')
                            rw [cell_of_row _ _ _ _ _ _ q2] at this
                            rw [List.getElem?_eq_getElem hj']
                            simpa using this
                          · rename_i hj
                            rw [List.getElem?_eq_none (by rw [r2]; omega)]
                        have hown : w.ownsRow 0 T' te.size (.slice (some ⟨b, 0, none⟩) rows.length c) rows.length vs := ⟨r2, .inr ⟨b, c, cur0, rfl, Nat.zero_le _, q2, hlc, q3, q4, htk⟩⟩
                        obtain ⟨v', w', hrun, ho, hg, hnil, hblk⟩ := run_append_own_at (P := P) w 0 T ty T' fi z0 te.size te.bytes hu i1 i5 i3 i4 hzs hsz0 (.slice (some ⟨b, 0, none⟩) rows.length c) rows.length vs hown ⟨b2, off2, none⟩ rows2.length c2 vs2 k2
                          (fun j q hq => by rw [Addr.add_lit]; exact k3 j q hq) hone hml hby (Nat.zero_le _)
                        obtain ⟨o1, o2⟩ := ho
                        have hkk : ∀ k, k < w.heap.size → oldAt φ σ n ≠ some k → w'.heap[k]? = w.heap[k]? := fun k hk hne => hg.block k hk (by rw [hold] at hne; simp only [Value.ownBlock]; exact fun e => hne e.symm)
                        rcases o2 with ⟨rfl, hz⟩ | ⟨b', cap, cur, rfl, _, f1, f2, f3, f4, f5⟩
                        · simp at hnil
                        · refine fin _ w' (some (b', cap)) (vs ++ vs2) hrun hg.size hg.os hg.tape hg.output hkk (fun b0 e => ?_) (by simpa using LRel.append r1 k1)
                            (.inr ⟨b', cap, cur, rfl, rfl, f1, f2, f3, f4, f5⟩)
                          cases e
                          simp only [Value.ownBlock, Option.some.injEq] at hblk
                          rcases hblk with hblk | hblk
                          · left; rw [hblk]; exact hold
                          · right; rw [hblk]; exact Nat.le_refl _
                · cases h
              · cases h
            · split at h
              · rename_i hc1
                obtain ⟨hml, hby⟩ := hc1
                cases h
                obtain rfl : v = _ := hsv
                replace hn := hn rfl
                have hold : oldAt φ σ nm = none := by unfold oldAt; rw [hn]; split <;> rfl
                have nilcase : rows2 = [] → (Builtin.append_ #[T, T] ty #[.slice none 0 0, u]).run P w = .ok (.slice none 0 0) w →
                    ∃ z w' φ', (Builtin.append_ #[T, T] ty #[.slice none 0 0, u]).run P w = .ok z w' ∧ (∀ m, φ m = .unset → (m ≠ nm ∨ AV.nils ≠ .nils) → φ' m = .unset) ∧ VRel ⟨w', φ', upd σ nm (some (.arr e te.size 0 rows2))⟩ (.os nm 0 rows2.length) z ∧
                      SRel ⟨w', φ', upd σ nm (some (.arr e te.size 0 rows2))⟩ ∧ Ext ⟨w, φ, σ⟩ ⟨w', φ', upd σ nm (some (.arr e te.size 0 rows2))⟩ := by
                  intro hr hrun
                  subst hr
                  have hle : (φ nm).le (.arr none 0) := by rw [hn]; trivial
                  exact ⟨_, w, upd φ nm (.arr none 0), hrun, fun m hm hne => by rw [upd_ne _ _ (hne.elim id fun h => absurd rfl h)]; exact hm, ⟨none, 0, rfl, none, 0, upd_same _ _ _, Nat.le_refl _, fun _ => .inl ⟨rfl, rfl, rfl, rfl⟩⟩,
                    SRel.turn hs (Nat.le_refl _) rfl rfl rfl hle (fun _ _ _ => rfl) (by simp [Ref.at]) (.inl ⟨upd_same _ _ _, rfl⟩), Ext.turn _ (Nat.le_refl _) rfl rfl rfl hle (fun _ _ _ => rfl) (by simp [Ref.at])⟩
                rcases hsrc' with ⟨rfl, a2, c2, rfl⟩ | ⟨b2, off2, c2, vs2, rfl, k1, k2, k3⟩
                · exact nilcase rfl (append_none hu (tes.sizeOf w) (Nat.le_refl _))
                · have hone := (rows_one hall k1).2
                  obtain ⟨v', w', hrun, ho, hg, hnil, hblk⟩ := run_append_own_at (P := P) w 0 T ty e fi z0 te.size te.bytes hu i1 i5 i3 i4 hzs hsz0 (.slice none 0 0) 0 [] (World.ownsRow_nil w 0 e te.size) ⟨b2, off2, none⟩ rows2.length c2 vs2 k2
                    (fun j q hq => by rw [Addr.add_lit]; exact k3 j q hq) hone (by simpa using hml) (by simpa using hby) (Nat.zero_le _)
                  obtain ⟨o1, o2⟩ := ho
                  rcases o2 with ⟨rfl, hz⟩ | ⟨b', cap, cur, rfl, _, f1, f2, f3, f4, f5⟩
                  · have hr0 : rows2 = [] := List.eq_nil_of_length_eq_zero (by simpa using hz)
                    have hrun2 := append_none hu (tes.sizeOf w) (ty := ty) (base := none) (a := some ⟨b2, off2, none⟩) (c := c2) (Nat.le_refl 0)
                    subst hr0
                    exact nilcase rfl hrun2
                  · have hle : (φ nm).le (.arr (some (b', cap)) 0) := by rw [hn]; trivial
                    have hb' : w.heap.size ≤ b' := by
                      simp only [Value.ownBlock, Option.some.injEq] at hblk
                      rcases hblk with hblk | hblk
                      · cases hblk
                      · rw [hblk]; exact Nat.le_refl _
                    have hkk : ∀ k, k < w.heap.size → oldAt φ σ nm ≠ some k → w'.heap[k]? = w.heap[k]? := fun k hk _ => hg.block k hk (by simp [Value.ownBlock])
                    have hat : ∀ b, (Ref.arr (some (b', cap)) 0).at = some b → oldAt φ σ nm = some b ∨ w.heap.size ≤ b := fun b e => .inr (by cases e; exact hb')
                    have hx' := Ext.turn (w := w) (w' := w') (φ := φ) (σ := σ) (n := nm) (ρ := .arr (some (b', cap)) 0) (.arr e te.size 0 rows2) hg.size hg.os hg.tape hg.output hle hkk hat
                    refine ⟨_, w', _, hrun, fun m hm hne => by rw [upd_ne _ _ (hne.elim id fun h => absurd rfl h)]; exact hm, ⟨_, cap, by simp only [Nat.zero_add], _, 0, upd_same _ _ _, Nat.le_refl _, fun _ => .inr ⟨b', rfl, by simpa using f2, rfl⟩⟩,
                      SRel.turn hs hg.size hg.os hg.tape hg.output hle hkk hat (.inr ⟨b', cap, cur, upd_same _ _ _, f1, f3, f4, by simpa using f2, RowsAt.of_flat hr2 (LRel.mono hx' _ _ k1) fun j q k => ?_⟩), hx'⟩
                    rw [cell_of_row _ _ _ _ _ _ f1]
                    simp only [Nat.zero_add, List.nil_append] at f5
                    rw [← f5, List.getElem?_take] at k
                    split at k
                    · simpa using k
                    · cases k
              · cases h
            · cases h
          · cases h
        · cases h
      · cases h
    · cases h
  · cases h

end Go.Ab
