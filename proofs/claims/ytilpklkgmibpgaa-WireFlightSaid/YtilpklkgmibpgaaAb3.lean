/- Ab3: operations that make memory, that reckon places, that build values. -/
import Derived.Test.YtilpklkgmibpgaaAb2
import Derived.Laws.StructEq
namespace Go.Ab
open Go.RowKit
set_option linter.unusedVariables false
set_option linter.unusedSimpArgs false
variable {P : Program} {tt : Nat → Option TI}

/-- A new block under a new name. -/
theorem newCells {w : World} {φ : Nat → Ref} {σ : Nat → Option AO} (hs : SRel ⟨w, φ, σ⟩) {n : Nat} (hn : φ n = .unset) {T : TypeId} {cs : List AV} {vs : Array Value} (hv : LRel ⟨w, φ, σ⟩ cs vs.toList) :
    SRel ⟨w.alloc (.cells vs T), upd φ n (.blk w.heap.size), upd σ n (some (.cells T cs))⟩ ∧ Ext ⟨w, φ, σ⟩ ⟨w.alloc (.cells vs T), upd φ n (.blk w.heap.size), upd σ n (some (.cells T cs))⟩ := by
  have hold : oldAt φ σ n = none := by unfold oldAt; rw [hn]; split <;> rfl
  have hx := Ext.turn (w := w) (w' := w.alloc (.cells vs T)) (φ := φ) (σ := σ) (n := n) (ρ := .blk w.heap.size) (.cells T cs) (by simp) rfl rfl rfl (by rw [hn]; trivial)
    (fun k hk _ => Below.heap_alloc w _ k hk) (fun b e => .inr (by cases e; exact Nat.le_refl _))
  refine ⟨SRel.turn hs (by simp) rfl rfl rfl (by rw [hn]; trivial) (fun k hk _ => Below.heap_alloc w _ k hk) (fun b e => .inr (by cases e; exact Nat.le_refl _)) ?_, hx⟩
  have hl := hv.length
  refine ⟨w.heap.size, vs, upd_same _ _ _, heap_alloc_new w _, by simpa using hl, CellsAt.of_vals (LRel.mono hx _ _ hv) fun j v e => ?_⟩
  rw [cell_of_row _ _ _ _ _ _ (heap_alloc_new w _)]
  simpa using e

theorem RowsAt.of_flat {R : Env} {b e : Nat} : ∀ {rows : List (List AV)} {off : Nat} {vs : List Value}, (∀ r, r ∈ rows → r.length = e) → LRel R rows.flatten vs →
    (∀ j v, vs[j]? = some v → R.w.cell? ⟨b, off + j, none⟩ = some v) → RowsAt R b e off rows
  | [], _, _, _, _, _ => trivial
  | r :: rs, off, vs, hl, hv, hc => by
    obtain ⟨us, ws, rfl, h1, h2⟩ := LRel.two (xs := r) (ys := rs.flatten) (by simpa using hv)
    have hr := hl r (by simp)
    have hlen := h1.length
    refine ⟨hr, CellsAt.of_vals h1 fun j v k => ?_, RowsAt.of_flat (fun r' h => hl r' (by simp [h])) h2 fun j v k => ?_⟩
    · refine hc j v ?_
      rw [List.getElem?_append_left (by have := (List.getElem?_eq_some_iff.1 k).1; omega)]; exact k
    · have := hc (us.length + j) v (by rw [List.getElem?_append_right (by omega)]; rwa [show us.length + j - us.length = j by omega])
      rwa [show off + e + j = off + (us.length + j) by omega]
theorem flat_of {R : Env} {b e : Nat} : ∀ {rows : List (List AV)} {off : Nat}, RowsAt R b e off rows → ∃ vs, LRel R rows.flatten vs ∧ vs.length = rows.length * e ∧ ∀ j v, vs[j]? = some v → R.w.cell? ⟨b, off + j, none⟩ = some v
  | [], off, _ => ⟨[], rfl, by simp, fun j v e => by simp at e⟩
  | r :: rs, off, h => by
    obtain ⟨h1, h2, h3⟩ := h
    obtain ⟨us, u1, u2⟩ := h2.vals
    obtain ⟨ws, w1, w2, w3⟩ := flat_of h3
    have hl := u1.length
    refine ⟨us ++ ws, by simpa using LRel.append u1 w1, by simp [w2, hl, h1, Nat.add_mul]; omega, fun j v k => ?_⟩
    by_cases hj : j < us.length
    · rw [List.getElem?_append_left hj] at k; exact u2 j v k
    · rw [List.getElem?_append_right (by omega)] at k
      have := w3 (j - us.length) v k
      rwa [show off + e + (j - us.length) = off + j by omega] at this

/-! ### alloc, box, makeMap -/
def allocA (tt : Nat → Option TI) (σ : Nat → Option AO) (nm T : Nat) : Option (AV × (Nat → Option AO)) :=
  match tt T with
  | some i => some (.ptr nm 0, upd σ nm (some (.cells T i.zero)))
  | none => none
theorem allocA_sound (ht : TTok P tt) {w : World} {φ : Nat → Ref} {σ σ' : Nat → Option AO} (hs : SRel ⟨w, φ, σ⟩) {nm T : Nat} {x : AV} (h : allocA tt σ nm T = some (x, σ')) (hn : φ nm = .unset) :
    ∃ u w', (Instr.alloc T true (.tuple #[])).run P w = .ok u w' ∧ VRel ⟨w', upd φ nm (.blk w.heap.size), σ'⟩ x u ∧ SRel ⟨w', upd φ nm (.blk w.heap.size), σ'⟩ ∧ Ext ⟨w, φ, σ⟩ ⟨w', upd φ nm (.blk w.heap.size), σ'⟩ := by
  unfold allocA at h
  split at h
  · rename_i i hi
    cases h
    obtain ⟨z, hz, hzr⟩ := (ht.at hi).zeroValue w
    obtain ⟨h1, h2⟩ := newCells hs hn (T := T) (vs := z.cells) (hzr _)
    exact ⟨.pointer (some ⟨w.heap.size, 0, none⟩), _, by simp [Instr.alloc, hz, newVar, newRow, newObj, Sem.run], ⟨_, upd_same _ _ _, rfl⟩, h1, h2⟩
  · cases h

def boxA (σ : Nat → Option AO) (nm T : Nat) (x : AV) : Option (AV × (Nat → Option AO)) :=
  if x.ok = true then some (.ptr nm 0, upd σ nm (some (.cells T x.cells))) else none
theorem boxA_sound {w : World} {φ : Nat → Ref} {σ σ' : Nat → Option AO} (hs : SRel ⟨w, φ, σ⟩) {nm T : Nat} {x y : AV} {v : Value} (h : boxA σ nm T x = some (y, σ')) (hx : VRel ⟨w, φ, σ⟩ x v) (hn : φ nm = .unset) :
    ∃ u w', (Instr.box T v).run P w = .ok u w' ∧ VRel ⟨w', upd φ nm (.blk w.heap.size), σ'⟩ y u ∧ SRel ⟨w', upd φ nm (.blk w.heap.size), σ'⟩ ∧ Ext ⟨w, φ, σ⟩ ⟨w', upd φ nm (.blk w.heap.size), σ'⟩ := by
  unfold boxA at h
  split at h
  · rename_i hok
    cases h
    obtain ⟨k1, k2⟩ := cells_rel hx hok
    obtain ⟨h1, h2⟩ := newCells hs hn (T := T) (vs := v.cells) k1
    exact ⟨.pointer (some ⟨w.heap.size, 0, none⟩), _, by simp [Instr.box, newVar, newRow, newObj, Sem.run], ⟨_, upd_same _ _ _, rfl⟩, h1, h2⟩
  · cases h

def makeMapA (σ : Nat → Option AO) (nm : Nat) : AV × (Nat → Option AO) := (.map nm, upd σ nm (some (.imap [])))
theorem makeMapA_sound {w : World} {φ : Nat → Ref} {σ : Nat → Option AO} (hs : SRel ⟨w, φ, σ⟩) {nm T : Nat} (hn : φ nm = .unset) :
    ∃ u w', (Instr.makeMap T none).run P w = .ok u w' ∧ VRel ⟨w', upd φ nm (.blk w.heap.size), upd σ nm (some (.imap []))⟩ (.map nm) u ∧ SRel ⟨w', upd φ nm (.blk w.heap.size), upd σ nm (some (.imap []))⟩ ∧
      Ext ⟨w, φ, σ⟩ ⟨w', upd φ nm (.blk w.heap.size), upd σ nm (some (.imap []))⟩ := by
  have hold : oldAt φ σ nm = none := by unfold oldAt; rw [hn]; split <;> rfl
  refine ⟨.map (some w.heap.size), w.alloc (.map #[] 0), by simp [Instr.makeMap, newObj, Sem.run], ⟨_, upd_same _ _ _, rfl⟩, ?_, ?_⟩
  · exact SRel.turn hs (by simp) rfl rfl rfl (by rw [hn]; trivial) (fun k hk _ => Below.heap_alloc w _ k hk) (fun b e => .inr (by cases e; exact Nat.le_refl _))
      ⟨_, _, _, upd_same _ _ _, heap_alloc_new w _, ⟨by simp, by simp⟩, rfl⟩
  · exact Ext.turn (.imap []) (by simp) rfl rfl rfl (by rw [hn]; trivial) (fun k hk _ => Below.heap_alloc w _ k hk) (fun b e => .inr (by cases e; exact Nat.le_refl _))

/-! ### Places -/
def addOff (k : Nat) : AV → Option AV
  | .ptr n o => some (.ptr n (o + k))
  | .ap n g e i o => some (.ap n g e i (o + k))
  | .pp rows i o => some (.pp rows i (o + k))
  | _ => none
theorem addOff_rel {R : Env} {k : Nat} {x y : AV} {v : Value} (h : addOff k x = some y) (hx : VRel R x v) : ∃ a, v = .pointer (some a) ∧ VRel R y (.pointer (some (a.add k))) := by
  unfold addOff at h
  split at h
  · rename_i n o
    cases h
    obtain ⟨b, h1, rfl⟩ := hx
    exact ⟨_, rfl, b, h1, by rw [Addr.add_lit]⟩
  · rename_i n g e i o
    cases h
    obtain ⟨a, rfl, r, g', h1, h2, h3⟩ := hx
    exact ⟨a, rfl, _, rfl, r, g', h1, h2, fun e' => by
      obtain ⟨b, c, k1, rfl⟩ := h3 e'
      exact ⟨b, c, k1, by rw [Addr.add_lit, Nat.add_assoc]⟩⟩
  · rename_i rows i o
    cases h
    obtain ⟨b, off, e, rfl, h1⟩ := hx
    exact ⟨_, rfl, b, off, e, by rw [Addr.add_lit, Nat.add_assoc], h1⟩
  · cases h

def fieldA (tt : Nat → Option TI) (s f : Nat) (p : AV) : Option AV :=
  match tt s with
  | some i => match i.d with
    | .struct fs => match fs[f]? with
      | some (o, t) => match tt t with
        | some ti => if ti.size = 0 then none else addOff o p
        | none => none
      | none => none
    | _ => none
  | none => none
theorem fieldA_sound (ht : TTok P tt) {R : Env} {s f : Nat} {p x : AV} {v : Value} (h : fieldA tt s f p = some x) (hp : VRel R p v) :
    ∃ u, (Instr.fieldAt s v f).run P R.w = .ok u R.w ∧ VRel R x u := by
  unfold fieldA at h
  split at h
  · rename_i i hi
    split at h
    · rename_i fs hd
      obtain ⟨a, hu, hfs⟩ := (ht.at hi).struct hd
      split at h
      · rename_i o t hf
        split at h
        · rename_i ti hti
          split at h
          · cases h
          · rename_i hsz
            obtain ⟨ad, rfl, hx⟩ := addOff_rel h hp
            refine ⟨_, ?_, hx⟩
            subst hfs
            rw [List.getElem?_map] at hf
            cases hfa : a.toList[f]? with
            | none => rw [hfa] at hf; cases hf
            | some fd =>
              rw [hfa] at hf
              simp only [Option.map_some, Option.some.injEq, Prod.mk.injEq] at hf
              obtain ⟨rfl, rfl⟩ := hf
              have hfa' : a[f]? = some fd := by simpa using hfa
              simp [Instr.fieldAt, run_underlying hu, hfa', Instr.sureAddr, fieldPlace, (ht.at hti).sizeOf R.w, hsz]
        · cases h
      · cases h
    · cases h
  · cases h

/-- A whole number's place among so many. -/
def nth (i : Int) (n : Nat) : Option Nat := if 0 ≤ i ∧ i < n then some i.toNat else none
def indexA (tt : Nat → Option TI) (σ : Nat → Option AO) (T : Nat) (x i : AV) : Option AV :=
  match tt T, i with
  | some ti, .int _ k => match ti.d with
    | .slice e => match tt e with
      | some te => match x with
        | .sl rows => (nth k rows.length).bind fun j => if (rows[j]?.map (·.length)) = some te.size then some (.pp rows j 0) else none
        | .os n g len => match σ n with
          | some (.arr _ e' g' rows) => if g = g' ∧ e' = te.size ∧ len ≤ rows.length then (nth k len).bind fun j => some (.ap n g e' j 0) else none
          | _ => none
        | _ => none
      | none => none
    | .arr n e => match tt e with
      | some te => (nth k n).bind fun j => addOff (j * te.size) x
      | none => none
    | _ => none
  | _, _ => none
theorem indexA_sound (ht : TTok P tt) {R : Env} (hs : SRel R) {T : Nat} {x i y : AV} {v vi : Value} (h : indexA tt R.σ T x i = some y) (hx : VRel R x v) (hi : VRel R i vi) :
    ∃ u, (Instr.indexAt T v vi).run P R.w = .ok u R.w ∧ VRel R y u := by
  unfold indexA at h
  split at h
  · rename_i ti k0 k hT
    obtain rfl : vi = .int k0 k := hi
    split at h
    · rename_i e hd
      have hu := (ht.at hT).slice hd
      split at h
      · rename_i te hte
        split at h
        · rename_i rows
          obtain ⟨a, c, rfl, hc, hr⟩ := hx
          unfold nth at h
          split at h
          · rename_i hk
            simp only [Option.bind_some] at h
            split at h
            · rename_i hrow
              cases h
              rcases hr with ⟨hr, _⟩ | ⟨b, off, e', rfl, h1, h2, h3⟩
              · subst hr; simp at hk; omega
              · cases hrk : rows[k.toNat]? with
                | none => rw [hrk] at hrow; cases hrow
                | some row =>
                  rw [hrk] at hrow
                  simp only [Option.map_some, Option.some.injEq] at hrow
                  obtain ⟨q1, _⟩ := RowsAt.get _ h3 hrk
                  refine ⟨.pointer (some ⟨b, off + k.toNat * e' + 0, none⟩), ?_, b, off, e', rfl, h1, h2, h3⟩
                  simp [Instr.indexAt, asIntOf, run_underlying hu, hk, (ht.at hte).sizeOf R.w, Addr.add_lit, ← hrow, q1]
            · cases h
          · cases h
        · rename_i n g len
          obtain ⟨a, c, rfl, r, g2, h1, h2, h3⟩ := hx
          split at h
          · rename_i T' e' g' rows hn
            split at h
            · rename_i hcond
              obtain ⟨rfl, rfl, hlen⟩ := hcond
              unfold nth at h
              split at h
              · rename_i hk
                cases h
                rcases hs.obj n _ hn with ⟨k3, k4⟩ | ⟨b, c', cur, q1, q2, q3, q4, q5, q6⟩
                · subst k4; simp at hlen; omega
                · rw [h1] at q1; cases q1
                  rcases h3 rfl with ⟨h4, _⟩ | ⟨b', h4, h5, rfl⟩
                  · cases h4
                  · cases h4
                    refine ⟨.pointer (some ⟨b, k.toNat * te.size + 0, none⟩), ?_, _, rfl, _, _, h1, Nat.le_refl _, fun _ => ⟨b, c, rfl, rfl⟩⟩
                    simp [Instr.indexAt, asIntOf, run_underlying hu, hk, (ht.at hte).sizeOf R.w, Addr.add_lit]
              · cases h
            · cases h
          · cases h
        · cases h
      · cases h
    · rename_i n e hd
      have hu := (ht.at hT).arr hd
      split at h
      · rename_i te hte
        unfold nth at h
        split at h
        · rename_i hk
          simp only [Option.bind_some] at h
          obtain ⟨ad, rfl, hy⟩ := addOff_rel h hx
          refine ⟨_, ?_, hy⟩
          simp [Instr.indexAt, asIntOf, run_underlying hu, hk, (ht.at hte).sizeOf R.w, Instr.sureAddr]
        · cases h
      · cases h
    · cases h
  · cases h

/-! ### Slices of slices and strings -/
def boundA (x : Option AV) (d : Nat) : Option Nat :=
  match x with
  | none => some d
  | some (.int _ k) => if 0 ≤ k then some k.toNat else none
  | _ => none
def rowsLen (e : Nat) (rows : List (List AV)) : Bool := rows.all fun r => r.length == e
def sliceA (tt : Nat → Option TI) (T : Nat) (x : AV) (lo hi mx : Option AV) : Option AV :=
  match tt T with
  | some ti => match ti.d, x with
    | .slice e, .sl rows => match tt e, boundA lo 0, boundA hi rows.length, boundA mx rows.length with
      | some te, some l, some h, some m => if l ≤ h ∧ h ≤ m ∧ m ≤ rows.length ∧ (mx.isSome = true → hi.isSome = true) ∧ rowsLen te.size rows = true then some (.sl ((rows.take h).drop l)) else none
      | _, _, _, _ => none
    | .str, .str s => match boundA lo 0, boundA hi s.length, mx with
      | some l, some h, none => if l ≤ h ∧ h ≤ s.length then some (.str ((s.take h).drop l)) else none
      | _, _, _ => none
    | _, _ => none
  | none => none

theorem boundA_run {R : Env} {x : Option AV} {v : Option Value} {d m : Nat} (h : boundA x d = some m) (hx : x.isSome = v.isSome ∧ ∀ a b, x = some a → v = some b → VRel R a b) :
    (v = none ∧ m = d) ∨ ∃ k i, v = some (.int k i) ∧ 0 ≤ i ∧ i.toNat = m := by
  unfold boundA at h
  split at h
  · cases h; cases v with
    | none => exact .inl ⟨rfl, rfl⟩
    | some v => simp at hx
  · rename_i k n
    split at h
    · cases h
      cases v with
      | none => simp at hx
      | some v =>
        have := hx.2 _ _ rfl rfl
        exact .inr ⟨k, n, by rw [show v = .int k n from this], by assumption, rfl⟩
    · cases h
  · cases h

theorem sliceBound_run {w : World} {k : IntKind} {i : Int} {y : Nat} {code : BoundsCode} (h0 : 0 ≤ i) (h1 : i.toNat ≤ y) : (Instr.sliceBound (.int k i) y code).run P w = .ok i.toNat w := by
  have : i ≤ (y : Int) := by omega
  simp [Instr.sliceBound, asIntOf, h0, this]

theorem bounds_run {w : World} {isSlice : Bool} {len cap : Nat} {lo hi mx : Option Value} {l h m : Nat}
    (hl : (lo = none ∧ l = 0) ∨ ∃ k i, lo = some (.int k i) ∧ 0 ≤ i ∧ i.toNat = l) (hh : (hi = none ∧ h = len) ∨ ∃ k i, hi = some (.int k i) ∧ 0 ≤ i ∧ i.toNat = h)
    (hm : (mx = none ∧ m = len) ∨ ∃ k i, mx = some (.int k i) ∧ 0 ≤ i ∧ i.toNat = m) (h1 : l ≤ h) (h2 : h ≤ m) (h3 : m ≤ len) (hc : len ≤ cap) (h4 : mx.isSome = true → hi.isSome = true) :
    ∃ m', (mx = none → m' = cap) ∧ (mx.isSome = true → m' = m) ∧ h ≤ m' ∧ m' ≤ cap ∧ (Instr.sliceBounds isSlice len cap lo hi mx).run P w = .ok (l, h, m') w := by
  rcases hm with ⟨rfl, rfl⟩ | ⟨km, im, rfl, m0, rfl⟩
  · refine ⟨cap, fun _ => rfl, by simp, by omega, Nat.le_refl _, ?_⟩
    rcases hl with ⟨rfl, rfl⟩ | ⟨k, i, rfl, i0, rfl⟩
    · rcases hh with ⟨rfl, rfl⟩ | ⟨k', i', rfl, i0', rfl⟩
      · simp [Instr.sliceBounds]
      · simp [Instr.sliceBounds, sliceBound_run (P := P) (w := w) i0' (show i'.toNat ≤ cap by omega)]
    · rcases hh with ⟨rfl, rfl⟩ | ⟨k', i', rfl, i0', rfl⟩
      · simp [Instr.sliceBounds, sliceBound_run (P := P) (w := w) i0 h1]
      · simp [Instr.sliceBounds, sliceBound_run (P := P) (w := w) i0' (show i'.toNat ≤ cap by omega), sliceBound_run (P := P) (w := w) i0 h1]
  · refine ⟨im.toNat, by simp, fun _ => rfl, h2, by omega, ?_⟩
    rcases hh with ⟨rfl, rfl⟩ | ⟨k', i', rfl, i0', rfl⟩
    · simp at h4
    · rcases hl with ⟨rfl, rfl⟩ | ⟨k, i, rfl, i0, rfl⟩
      · simp [Instr.sliceBounds, sliceBound_run (P := P) (w := w) m0 (show im.toNat ≤ cap by omega), sliceBound_run (P := P) (w := w) i0' h2]
      · simp [Instr.sliceBounds, sliceBound_run (P := P) (w := w) m0 (show im.toNat ≤ cap by omega), sliceBound_run (P := P) (w := w) i0' h2, sliceBound_run (P := P) (w := w) i0 h1]

theorem sliceA_sound (ht : TTok P tt) {R : Env} {T : Nat} {x y : AV} {lo hi mx : Option AV} {v : Value} {vlo vhi vmx : Option Value} (h : sliceA tt T x lo hi mx = some y) (hx : VRel R x v)
    (hlo : lo.isSome = vlo.isSome ∧ ∀ a b, lo = some a → vlo = some b → VRel R a b) (hhi : hi.isSome = vhi.isSome ∧ ∀ a b, hi = some a → vhi = some b → VRel R a b)
    (hmx : mx.isSome = vmx.isSome ∧ ∀ a b, mx = some a → vmx = some b → VRel R a b) :
    ∃ u, (Instr.sliceAt T v vlo vhi vmx).run P R.w = .ok u R.w ∧ VRel R y u := by
  unfold sliceA at h
  split at h
  · rename_i ti hT
    split at h
    · rename_i e rows hd
      have hu := (ht.at hT).slice hd
      split at h
      · rename_i te l hh m hte hl hhe hme
        split at h
        · rename_i hcond
          obtain ⟨h1, h2, h3, h4, h5⟩ := hcond
          cases h
          obtain ⟨a, c, rfl, hc, hr⟩ := hx
          obtain ⟨m', q1, q2, q3, q4, hb⟩ := bounds_run (P := P) (w := R.w) (isSlice := true) (boundA_run hl hlo) (boundA_run hhe hhi) (boundA_run hme hmx) h1 h2 h3 hc (by rw [← hmx.1, ← hhi.1]; exact h4)
          have hlen : ((rows.take hh).drop l).length = hh - l := by simp; omega
          refine ⟨.slice (if m' = l then a else a.map (·.add (l * te.size))) (hh - l) (m' - l), ?_, ?_⟩
          · simp [Instr.sliceAt, run_underlying hu, Instr.slice, hb, (ht.at hte).sizeOf R.w]
          · refine ⟨_, m' - l, by rw [hlen], by rw [hlen]; omega, ?_⟩
            by_cases he : (rows.take hh).drop l = []
            · refine .inl ⟨he, fun hn => ?_⟩
              rcases hr with ⟨_, hr⟩ | ⟨b, off, e', rfl, _⟩
              · have ha : a = none := by
                  split at hn
                  · exact hn
                  · cases a <;> simp at hn ⊢
                have := hr ha
                omega
              · split at hn <;> cases hn
            · right
              have hlt : l < hh := Nat.lt_of_not_le fun k => he (List.eq_nil_of_length_eq_zero (by omega))
              rw [if_neg (by omega)]
              rcases hr with ⟨hr, _⟩ | ⟨b, off, e', rfl, k1, k2, k3⟩
              · subst hr; simp at he
              · have hne : ∃ r, rows[0]? = some r := ⟨_, List.getElem?_eq_getElem (show 0 < rows.length by omega)⟩
                obtain ⟨r0, hr0⟩ := hne
                have hsz : e' = te.size := by
                  have := (RowsAt.get 0 k3 hr0).1
                  rw [← this]
                  have := List.all_eq_true.1 h5 r0 (List.mem_of_getElem? hr0)
                  simpa using this
                subst hsz
                exact ⟨b, off + l * te.size, te.size, by simp [Addr.add_lit], k1, k2, RowsAt.drop l (RowsAt.take hh k3)⟩
        · cases h
      · cases h
    · rename_i s hd
      have hu := (ht.at hT).str hd
      split at h
      · rename_i l hh hl hhe
        split at h
        · rename_i hcond
          obtain ⟨h1, h2⟩ := hcond
          cases h
          obtain rfl : v = .string ⟨s.toArray⟩ := hx
          cases vmx with
          | some v => simp at hmx
          | none =>
            have hsz : (⟨s.toArray⟩ : ByteArray).size = s.length := rfl
            obtain ⟨m', q1, q2, q3, q4, hb⟩ := bounds_run (P := P) (w := R.w) (isSlice := false) (len := s.length) (cap := s.length) (mx := none) (boundA_run hl hlo) (boundA_run hhe hhi) (.inl ⟨rfl, rfl⟩) h1 h2 (Nat.le_refl _) (Nat.le_refl _) (by simp)
            refine ⟨.string ((⟨s.toArray⟩ : ByteArray).extract l hh), ?_, ?_⟩
            · simp [Instr.sliceAt, run_underlying hu, Instr.slice, hsz, hb]
            · simp only [VRel]
              congr 1
              apply ByteArray.ext
              simp [ByteArray.data_extract, List.drop_take]
        · cases h
      · cases h
    · cases h
  · cases h

end Go.Ab
