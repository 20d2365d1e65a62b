/- Ab4: operations that build values; a component of a tuple; tests and reckoning. -/
import Derived.Test.YtilpklkgmibpgaaAb3
import Derived.Laws.Tables
namespace Go.Ab
open Go.RowKit
set_option linter.unusedVariables false
set_option linter.unusedSimpArgs false
variable {P : Program} {tt : Nat → Option TI}

/-! ### build -/
def fillA (place : Nat → Option (Nat × Nat)) (cells : List AV) : List (Nat × AV) → Option (List AV)
  | [] => some cells
  | (i, x) :: rest => match place i with
    | some (off, size) => if x.ok = true ∧ x.cells.length = size ∧ off + size ≤ cells.length then fillA place (splice cells off x.cells) rest else none
    | none => none

theorem setFold_eq (off : Nat) : ∀ (vs : List Value) (k : Nat) (cells : Array Value), off + k + vs.length ≤ cells.size →
    ((vs.zipIdx k).foldl (fun cs (x : Value × Nat) => cs.setIfInBounds (off + x.2) x.1) cells).toList = splice cells.toList (off + k) vs
  | [], k, cells, _ => by simp [splice]
  | v :: vs, k, cells, h => by
    simp only [List.zipIdx_cons, List.foldl_cons]
    rw [setFold_eq off vs (k + 1) _ (by simp at h ⊢; omega)]
    apply List.ext_getElem?
    intro j
    rw [splice_get _ _ _ (by simp at h ⊢; omega), splice_get _ _ _ (by simp at h ⊢; omega)]
    simp only [Array.toList_setIfInBounds, List.getElem?_set, List.length_cons]
    simp at h
    by_cases h1 : j < off + k
    · rw [if_pos (by omega), if_pos h1, if_neg (by omega)]
    · rw [if_neg h1]
      by_cases h2 : j = off + k
      · subst h2
        rw [if_pos (by omega), if_pos rfl, if_pos (by simp; omega), if_pos (by omega)]
        simp
      · rw [if_neg (by omega)]
        by_cases h3 : j < off + k + (vs.length + 1)
        · rw [if_pos (by omega), if_pos h3, show j - (off + k) = (j - (off + (k + 1))) + 1 by omega]; simp
        · rw [if_neg (by omega), if_neg h3, if_neg (by omega)]

theorem fillA_sound {R : Env} {place : Nat → Option (Nat × Nat)} : ∀ {parts : List (Nat × AV)} {vparts : List (Nat × Value)} {cells out : List AV} {vcells : Array Value},
    fillA place cells parts = some out → (parts.map (·.1) = vparts.map (·.1) ∧ LRel R (parts.map (·.2)) (vparts.map (·.2))) → LRel R cells vcells.toList →
    ∃ vout, Instr.fill place vcells vparts = some vout ∧ LRel R out vout.toList
  | [], vparts, cells, out, vcells, h, hp, hc => by
    cases vparts with
    | nil => cases h; exact ⟨vcells, rfl, hc⟩
    | cons a l => simp at hp
  | (i, x) :: rest, vparts, cells, out, vcells, h, hp, hc => by
    cases vparts with
    | nil => simp at hp
    | cons a l =>
      obtain ⟨i', v⟩ := a
      simp only [List.map_cons, List.cons.injEq] at hp
      obtain ⟨⟨rfl, hp1⟩, u, us, e, hx, hp2⟩ := hp
      simp only [List.cons.injEq] at e
      obtain ⟨rfl, rfl⟩ := e
      unfold fillA at h
      split at h
      · rename_i off size hpl
        split at h
        · rename_i hcond
          obtain ⟨hok, hsz, hle⟩ := hcond
          obtain ⟨k1, k2⟩ := cells_rel hx hok
          have hl := k1.length
          have hcl := hc.length
          have hvs : v.cells.size = size := by rw [hsz] at hl; simpa using hl
          have hfold := setFold_eq off v.cells.toList 0 vcells (by simp at hl hcl ⊢; omega)
          simp only [Nat.add_zero] at hfold
          have hfill : Instr.fill place vcells ((i, v) :: l) = Instr.fill place (v.cells.zipIdx.foldl (fun cs (c, j) => cs.setIfInBounds (off + j) c) vcells) l := by
            rw [Instr.fill, hpl]
            simp only []
            rw [if_neg]
            simp at hcl
            simp [hvs]; omega
          have hrel : LRel R (splice cells off x.cells) (v.cells.zipIdx.foldl (fun cs (c, j) => cs.setIfInBounds (off + j) c) vcells).toList := by
            have e1 : (v.cells.zipIdx.foldl (fun cs (c, j) => cs.setIfInBounds (off + j) c) vcells).toList = splice vcells.toList off v.cells.toList := by
              rw [← hfold, ← Array.foldl_toList]
              simp [Array.toList_zipIdx]
            rw [e1]
            unfold splice
            rw [show v.cells.toList.length = x.cells.length from hl]
            exact LRel.append (LRel.append (LRel.take _ hc) k1) (LRel.drop _ hc)
          obtain ⟨vout, q1, q2⟩ := fillA_sound h ⟨hp1, hp2⟩ hrel
          exact ⟨vout, by rw [hfill]; exact q1, q2⟩
        · cases h
      · cases h

def placesA (tt : Nat → Option TI) : List (Nat × Nat) → Option (List (Nat × Nat))
  | [] => some []
  | (o, t) :: fs => match tt t with
    | some ti => (placesA tt fs).map ((o, ti.size) :: ·)
    | none => none
theorem placesA_sound (ht : TTok P tt) : ∀ {fs : List Field} {pl : List (Nat × Nat)}, placesA tt (fs.map fun f => (f.offset, f.type)) = some pl →
    fs.mapM (fun f => (P.info? f.type).map fun i => (f.offset, i.size)) = some pl
  | [], pl, h => by cases h; rfl
  | f :: fs, pl, h => by
    simp only [List.map_cons, placesA] at h
    split at h
    · rename_i ti hti
      cases hp : placesA tt (fs.map fun f => (f.offset, f.type)) with
      | none => rw [hp] at h; cases h
      | some q =>
        rw [hp] at h
        simp only [Option.map_some, Option.some.injEq] at h
        obtain ⟨fi, z, d, h1, h2, h3, _⟩ := (ht.at hti).info
        simp [List.mapM_cons, h1, placesA_sound ht hp, h3, h]
    · cases h

def buildA (tt : Nat → Option TI) (T : Nat) (parts : List (Nat × AV)) : Option AV :=
  match tt T with
  | some ti => match ti.d with
    | .struct fs => match placesA tt fs with
      | some pl => (fillA (pl[·]?) ti.zero parts).map .agg
      | none => none
    | .arr n e => match tt e with
      | some te => (fillA (fun i => some (i * te.size, te.size)) ti.zero parts).map .agg
      | none => none
    | _ => none
  | none => none
theorem buildA_sound (ht : TTok P tt) {R : Env} {T : Nat} {parts : List (Nat × AV)} {vparts : Array (Nat × Value)} {x : AV} (h : buildA tt T parts = some x)
    (hp : parts.map (·.1) = vparts.toList.map (·.1) ∧ LRel R (parts.map (·.2)) (vparts.toList.map (·.2))) : ∃ u, (Instr.build T vparts).run P R.w = .ok u R.w ∧ VRel R x u := by
  unfold buildA at h
  split at h
  · rename_i ti hT
    obtain ⟨z, hz, hzr⟩ := (ht.at hT).zeroValue R.w
    split at h
    · rename_i fs hd
      obtain ⟨a, hu, hfs⟩ := (ht.at hT).struct hd
      split at h
      · rename_i pl hpl
        subst hfs
        have hm := placesA_sound ht hpl
        cases hf : fillA (pl[·]?) ti.zero parts with
        | none => rw [hf] at h; cases h
        | some out =>
          rw [hf] at h; cases h
          obtain ⟨vout, q1, q2⟩ := fillA_sound hf hp (hzr R)
          refine ⟨.agg vout, ?_, vout, rfl, q2⟩
          have q1' : Instr.fill (fun x => (pl.toArray)[x]?) z.cells vparts.toList = some vout := by simpa using q1
          simp [Instr.build, run_underlying hu, hz, Array.mapM_eq_mapM_toList, run_places R.w _ _ hm, q1]
      · cases h
    · rename_i n e hd
      have hu := (ht.at hT).arr hd
      split at h
      · rename_i te hte
        cases hf : fillA (fun i => some (i * te.size, te.size)) ti.zero parts with
        | none => rw [hf] at h; cases h
        | some out =>
          rw [hf] at h; cases h
          obtain ⟨vout, q1, q2⟩ := fillA_sound hf hp (hzr R)
          refine ⟨.agg vout, ?_, vout, rfl, q2⟩
          simp [Instr.build, run_underlying hu, hz, (ht.at hte).sizeOf R.w, q1]
      · cases h
    · cases h
  · cases h

/-! ### buildSlice -/
theorem LRel.of_get {R : Env} : ∀ {xs : List AV} {vs : List Value}, xs.length = vs.length → (∀ (i : Nat) x v, xs[i]? = some x → vs[i]? = some v → VRel R x v) → LRel R xs vs
  | [], vs, hl, _ => by cases vs with | nil => rfl | cons a l => simp at hl
  | x :: xs, vs, hl, h => by
    cases vs with
    | nil => simp at hl
    | cons v vs => exact ⟨v, vs, rfl, h 0 x v (by simp) (by simp), LRel.of_get (by simpa using hl) fun i x' v' e1 e2 => h (i + 1) x' v' (by simpa using e1) (by simpa using e2)⟩

theorem flatten_length {α : Type} (size : Nat) : ∀ (rows : List (List α)), (∀ r, r ∈ rows → r.length = size) → rows.flatten.length = rows.length * size
  | [], _ => by simp
  | r :: rs, h => by
    simp only [List.flatten_cons, List.length_append, List.length_cons]
    rw [flatten_length size rs (fun r' h' => h r' (by simp [h'])), h r (by simp), Nat.add_mul]; omega
theorem flatten_get {α : Type} {size : Nat} : ∀ {rows : List (List α)}, (∀ r, r ∈ rows → r.length = size) → ∀ (i j : Nat), j < size → rows.flatten[i * size + j]? = (rows[i]?).bind (·[j]?)
  | [], _, i, j, _ => by simp
  | r :: rs, h, 0, j, hj => by
    have := h r (by simp)
    simp only [List.flatten_cons, Nat.zero_mul, Nat.zero_add, List.getElem?_cons_zero, Option.bind_some]
    rw [List.getElem?_append_left (by omega)]
  | r :: rs, h, i + 1, j, hj => by
    have hr := h r (by simp)
    simp only [List.flatten_cons, List.getElem?_cons_succ]
    rw [List.getElem?_append_right (by rw [hr, Nat.add_mul]; omega), hr, show (i + 1) * size + j - size = i * size + j by rw [Nat.add_mul]; omega]
    exact flatten_get (fun r' h' => h r' (by simp [h'])) i j hj
theorem flatten_set {α : Type} {size : Nat} {rows : List (List α)} (h : ∀ r, r ∈ rows → r.length = size) {i : Nat} {x : List α} (hi : i < rows.length) (hx : x.length = size) :
    (rows.set i x).flatten = splice rows.flatten (i * size) x := by
  have hfl := flatten_length size rows h
  have hb : i * size + size ≤ rows.length * size := by rw [← Nat.succ_mul]; exact Nat.mul_le_mul_right _ hi
  have h' : ∀ r, r ∈ rows.set i x → r.length = size := fun r hr => by
    rcases List.mem_or_eq_of_mem_set hr with k | k
    · exact h r k
    · rw [k]; exact hx
  apply List.ext_getElem?
  intro k
  rw [splice_get _ _ _ (by rw [hx, hfl]; exact hb)]
  rcases Nat.eq_zero_or_pos size with h0 | h0
  · have e1 : (rows.set i x).flatten = [] := List.eq_nil_of_length_eq_zero (by rw [flatten_length size _ h', h0]; simp)
    have e2 : rows.flatten = [] := List.eq_nil_of_length_eq_zero (by rw [hfl, h0]; simp)
    have e3 : x = [] := List.eq_nil_of_length_eq_zero (by rw [hx, h0])
    rw [e1, e2, e3]; simp
  · obtain ⟨a, b, rfl, hb'⟩ : ∃ a b, k = a * size + b ∧ b < size := ⟨k / size, k % size, by rw [Nat.mul_comm]; exact (Nat.div_add_mod k size).symm, Nat.mod_lt _ h0⟩
    rw [flatten_get h' a b hb', List.getElem?_set]
    by_cases hai : a = i
    · subst hai
      rw [if_pos rfl, if_pos hi, if_neg (by omega), if_pos (by omega)]
      simp
    · rw [if_neg (fun e => hai e.symm), ← flatten_get h a b hb']
      rcases Nat.lt_or_gt_of_ne hai with hlt | hlt
      · have : (a + 1) * size ≤ i * size := Nat.mul_le_mul_right _ hlt
        rw [Nat.succ_mul] at this
        rw [if_pos (by omega)]
      · have : (i + 1) * size ≤ a * size := Nat.mul_le_mul_right _ hlt
        rw [Nat.succ_mul] at this
        rw [if_neg (by omega), if_neg (by omega)]

def fillR (size : Nat) (rows : List (List AV)) : List (Nat × AV) → Option (List (List AV))
  | [] => some rows
  | (i, x) :: rest => if x.ok = true ∧ x.cells.length = size ∧ i < rows.length then fillR size (rows.set i x.cells) rest else none
theorem fillR_fillA {size : Nat} : ∀ {parts : List (Nat × AV)} {rows out : List (List AV)}, fillR size rows parts = some out → (∀ r, r ∈ rows → r.length = size) →
    fillA (fun i => some (i * size, size)) rows.flatten parts = some out.flatten ∧ (∀ r, r ∈ out → r.length = size) ∧ out.length = rows.length
  | [], rows, out, h, hr => by cases h; exact ⟨rfl, hr, rfl⟩
  | (i, x) :: rest, rows, out, h, hr => by
    unfold fillR at h
    split at h
    · rename_i hc
      obtain ⟨h1, h2, h3⟩ := hc
      have hb : i * size + size ≤ rows.length * size := by rw [← Nat.succ_mul]; exact Nat.mul_le_mul_right _ h3
      have h' : ∀ r, r ∈ rows.set i x.cells → r.length = size := fun r hm => by
        rcases List.mem_or_eq_of_mem_set hm with k | k
        · exact hr r k
        · rw [k]; exact h2
      obtain ⟨q1, q2, q3⟩ := fillR_fillA h h'
      refine ⟨?_, q2, by simpa using q3⟩
      rw [fillA]
      simp only []
      rw [if_pos ⟨h1, h2, by rw [flatten_length size rows hr]; exact hb⟩, ← flatten_set hr h3 h2]
      exact q1
    · cases h

/-- The rows of a slice that is written out; 'by value', or under a name. -/
def rowsA (tt : Nat → Option TI) (T len : Nat) (parts : List (Nat × AV)) : Option (Nat × Nat × List (List AV)) :=
  match tt T with
  | some ti => match ti.d with
    | .slice e => match tt e with
      | some te => if len * te.size ≤ 16777216 ∧ len ≤ maxLen then (fillR te.size (List.replicate len te.zero) parts).map fun rows => (e, te.size, rows) else none
      | none => none
    | _ => none
  | none => none

theorem rowsA_sound (ht : TTok P tt) {R : Env} {T len e size : Nat} {parts : List (Nat × AV)} {vparts : Array (Nat × Value)} {rows : List (List AV)} (h : rowsA tt T len parts = some (e, size, rows))
    (hp : parts.map (·.1) = vparts.toList.map (·.1) ∧ LRel R (parts.map (·.2)) (vparts.toList.map (·.2))) :
    ∃ vs : Array Value, (Instr.buildSlice T len vparts).run P R.w = .ok (.slice (some ⟨R.w.heap.size, 0, none⟩) len len) (R.w.alloc (.cells vs e)) ∧ LRel R rows.flatten vs.toList ∧ (∀ r, r ∈ rows → r.length = size) ∧ rows.length = len ∧ len ≤ maxLen := by
  unfold rowsA at h
  split at h
  · rename_i ti hT
    split at h
    · rename_i e' hd
      have hu := (ht.at hT).slice hd
      split at h
      · rename_i te hte
        have tes := ht.at hte
        split at h
        · rename_i hle
          obtain ⟨hle, hml⟩ := hle
          cases hf : fillR te.size (List.replicate len te.zero) parts with
          | none => rw [hf] at h; cases h
          | some out =>
            rw [hf] at h
            simp only [Option.map_some, Option.some.injEq, Prod.mk.injEq] at h
            obtain ⟨rfl, rfl, rfl⟩ := h
            have hrep : ∀ r, r ∈ List.replicate len te.zero → r.length = te.size := fun r hr => by
              rw [(List.mem_replicate.1 hr).2]; exact tes.len
            obtain ⟨q1, q2, q3⟩ := fillR_fillA hf hrep
            obtain ⟨z, hz, hzr⟩ := tes.zeroValue R.w
            have hzs : z.cells.size = te.size := by have := (hzr R).length; rw [tes.len] at this; simpa using this
            obtain ⟨zero, hz1, hz0⟩ : ∃ zero : Array Value, (len * te.size = 0 → zero = #[]) ∧ (len * te.size ≠ 0 → zero = z.cells) := by
              by_cases h0 : len * te.size = 0
              · exact ⟨#[], fun _ => rfl, fun k => absurd h0 k⟩
              · exact ⟨z.cells, fun k => absurd k h0, fun _ => rfl⟩
            have hinit : LRel R (List.replicate len te.zero).flatten ((Array.range (len * te.size)).map (zero[· % zero.size]!)).toList := by
              have hfl := flatten_length te.size _ hrep
              refine LRel.of_get (by rw [hfl]; simp) fun i x v e1 e2 => ?_
              have hi : i < len * te.size := by have := (List.getElem?_eq_some_iff.1 e1).1; rw [hfl] at this; simpa using this
              have hne : len * te.size ≠ 0 := by omega
              have hs0 : 0 < te.size := Nat.pos_of_ne_zero fun k => hne (by rw [k]; simp)
              rw [hz0 hne] at e2
              obtain ⟨a, b, rfl, hb⟩ : ∃ a b, i = a * te.size + b ∧ b < te.size := ⟨i / te.size, i % te.size, by rw [Nat.mul_comm]; exact (Nat.div_add_mod i te.size).symm, Nat.mod_lt _ hs0⟩
              rw [flatten_get hrep a b hb] at e1
              have ha : a < len := by
                rcases Nat.lt_or_ge a len with k | k
                · exact k
                · have := Nat.mul_le_mul_right te.size k; omega
              rw [List.getElem?_replicate, if_pos ha] at e1
              simp only [Option.bind_some] at e1
              have hmod : (a * te.size + b) % te.size = b := by rw [Nat.add_comm, Nat.add_mul_mod_self_right, Nat.mod_eq_of_lt hb]
              have hbz : b < z.cells.size := by omega
              simp only [Array.toList_map, Array.toList_range, List.getElem?_map, List.getElem?_range hi, Option.map_some, Option.some.injEq] at e2
              rw [hzs, hmod, getElem!_pos z.cells b hbz] at e2
              subst e2
              obtain ⟨v', k1, k2⟩ := (hzr R).get b e1
              have : z.cells.toList[b]? = some z.cells[b] := by simp [hbz]
              rw [this] at k1; cases k1; exact k2
            obtain ⟨vout, w1, w2⟩ := fillA_sound q1 hp hinit
            refine ⟨vout, ?_, w2, q2, by simpa using q3, hml⟩
            have h24 : ¬ (len * te.size > 2 ^ 24) := by omega
            by_cases h0 : len * te.size = 0
            · rw [hz1 h0] at w1
              simp only [Instr.buildSlice, Sem.run_bind, run_underlying hu, Result.andThen_ok, tes.sizeOf R.w, if_neg h24, if_pos h0, w1, newRow, newObj, Sem.run, Sem.run_pure]
              rfl
            · rw [hz0 h0] at w1
              simp only [Instr.buildSlice, Sem.run_bind, run_underlying hu, Result.andThen_ok, tes.sizeOf R.w, if_neg h24, if_neg h0, hz, w1, newRow, newObj, Sem.run, Sem.run_pure]
              rfl
        · cases h
      · cases h
    · cases h
  · cases h

theorem own_new {w : World} {φ : Nat → Ref} {σ : Nat → Option AO} (hs : SRel ⟨w, φ, σ⟩) : ¬ Env.own ⟨w, φ, σ⟩ w.heap.size := fun h => by
  have := hs.own_lt h; exact absurd this (Nat.lt_irrefl _)

/-- by value -/
theorem buildSlice_value (ht : TTok P tt) {w : World} {φ : Nat → Ref} {σ : Nat → Option AO} (hs : SRel ⟨w, φ, σ⟩) {T len e size : Nat} {parts : List (Nat × AV)} {vparts : Array (Nat × Value)} {rows : List (List AV)}
    (h : rowsA tt T len parts = some (e, size, rows)) (hp : parts.map (·.1) = vparts.toList.map (·.1) ∧ LRel ⟨w, φ, σ⟩ (parts.map (·.2)) (vparts.toList.map (·.2))) :
    ∃ u w', (Instr.buildSlice T len vparts).run P w = .ok u w' ∧ VRel ⟨w', φ, σ⟩ (.sl rows) u ∧ SRel ⟨w', φ, σ⟩ ∧ Ext ⟨w, φ, σ⟩ ⟨w', φ, σ⟩ := by
  obtain ⟨vs, h1, h2, h3, h4, h5⟩ := rowsA_sound ht h hp
  have hx : Ext ⟨w, φ, σ⟩ ⟨w.alloc (.cells vs e), φ, σ⟩ := Ext.alloc0 _
  refine ⟨_, _, h1, ⟨some ⟨w.heap.size, 0, none⟩, len, by rw [h4], by omega, .inr ⟨w.heap.size, 0, size, rfl, by simp, own_new hs, ?_⟩⟩, SRel.alloc0 hs _, hx⟩
  refine RowsAt.of_flat h3 (LRel.mono hx _ _ h2) fun j v k => ?_
  rw [cell_of_row _ _ _ _ _ _ (heap_alloc_new w _)]
  simpa using k

/-- A new array under a new name. -/
theorem newArr {w : World} {φ : Nat → Ref} {σ : Nat → Option AO} (hs : SRel ⟨w, φ, σ⟩) {n : Nat} (hn : φ n = .unset) {T e c : Nat} {rows : List (List AV)} {vs : Array Value} {more : List Value}
    (hv : LRel ⟨w, φ, σ⟩ rows.flatten (vs.toList.take (rows.length * e))) (hr : ∀ r, r ∈ rows → r.length = e) (hc : c ≤ maxLen) (hl : rows.length ≤ c) (hsz : vs.size = c * e) :
    VRel ⟨w.alloc (.cells vs T), upd φ n (.arr (some (w.heap.size, c)) 0), upd σ n (some (.arr T e 0 rows))⟩ (.os n 0 rows.length) (.slice (some ⟨w.heap.size, 0, none⟩) rows.length c) ∧
      SRel ⟨w.alloc (.cells vs T), upd φ n (.arr (some (w.heap.size, c)) 0), upd σ n (some (.arr T e 0 rows))⟩ ∧ Ext ⟨w, φ, σ⟩ ⟨w.alloc (.cells vs T), upd φ n (.arr (some (w.heap.size, c)) 0), upd σ n (some (.arr T e 0 rows))⟩ := by
  have hold : oldAt φ σ n = none := by unfold oldAt; rw [hn]; split <;> rfl
  have hx := Ext.turn (w := w) (w' := w.alloc (.cells vs T)) (φ := φ) (σ := σ) (n := n) (ρ := .arr (some (w.heap.size, c)) 0) (.arr T e 0 rows) (by simp) rfl rfl rfl (by rw [hn]; trivial)
    (fun k hk _ => Below.heap_alloc w _ k hk) (fun b e => .inr (by cases e; exact Nat.le_refl _))
  refine ⟨⟨_, _, rfl, _, _, upd_same _ _ _, Nat.le_refl _, fun _ => .inr ⟨_, rfl, hl, rfl⟩⟩,
    SRel.turn hs (by simp) rfl rfl rfl (by rw [hn]; trivial) (fun k hk _ => Below.heap_alloc w _ k hk) (fun b e => .inr (by cases e; exact Nat.le_refl _)) ?_, hx⟩
  refine .inr ⟨w.heap.size, c, vs, upd_same _ _ _, heap_alloc_new w _, hc, hsz, hl, RowsAt.of_flat hr (LRel.mono hx _ _ hv) fun j v k => ?_⟩
  rw [cell_of_row _ _ _ _ _ _ (heap_alloc_new w _)]
  rw [List.getElem?_take] at k
  split at k
  · simpa using k
  · cases k

/-- under a name -/
theorem buildSlice_name (ht : TTok P tt) {w : World} {φ : Nat → Ref} {σ : Nat → Option AO} (hs : SRel ⟨w, φ, σ⟩) {T len e size nm : Nat} {parts : List (Nat × AV)} {vparts : Array (Nat × Value)} {rows : List (List AV)}
    (h : rowsA tt T len parts = some (e, size, rows)) (hp : parts.map (·.1) = vparts.toList.map (·.1) ∧ LRel ⟨w, φ, σ⟩ (parts.map (·.2)) (vparts.toList.map (·.2))) (hn : φ nm = .unset) :
    ∃ u w' φ', (Instr.buildSlice T len vparts).run P w = .ok u w' ∧ (∀ m, m ≠ nm → φ' m = φ m) ∧ VRel ⟨w', φ', upd σ nm (some (.arr e size 0 rows))⟩ (.os nm 0 rows.length) u ∧ SRel ⟨w', φ', upd σ nm (some (.arr e size 0 rows))⟩ ∧ Ext ⟨w, φ, σ⟩ ⟨w', φ', upd σ nm (some (.arr e size 0 rows))⟩ := by
  obtain ⟨vs, h1, h2, h3, h4, h5⟩ := rowsA_sound ht h hp
  have hfl := flatten_length size rows h3
  have hlen := h2.length
  obtain ⟨k1, k2, k3⟩ := newArr hs hn (T := e) (c := len) (rows := rows) (e := size) (vs := vs) (more := []) (by rw [List.take_of_length_le (by omega)]; exact h2) h3 h5 (by omega) (by rw [← h4, ← hfl]; simpa using hlen)
  refine ⟨_, _, _, h1, fun m hm => upd_ne _ _ hm, ?_, k2, k3⟩
  rw [h4] at k1 ⊢; exact k1

end Go.Ab
