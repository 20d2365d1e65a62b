/- Ab0: values, objects and stores of a small logic over the walk's own calculus: data that lie still are told by value; what is written is told by name. -/
import Derived.RangeFuncIn
import Derived.RangeFuncLeaves
import Derived.Below
import Derived.Laws.Rows
import Derived.Laws.NewBlocks
namespace Go.Ab
open Go.RowKit
set_option linter.unusedVariables false
set_option linter.unusedSimpArgs false

inductive AV where
  | junk
  | bool (b : Bool)
  | int (k : IntKind) (n : Int)
  | str (s : List UInt8)
  | nilp
  | ptr (n o : Nat)
  | ap (n g e i o : Nat)
  | pp (rows : List (List AV)) (i o : Nat)
  | nils
  | sle
  | sl (rows : List (List AV))
  | os (n g len : Nat)
  | ow (n g e off len : Nat)
  | nilm
  | map (n : Nat)
  | fn (f : Fn) (fs cs : List AV)
  | yld (n : Nat)
  | nilf
  | agg (cs : List AV)
  | tup (vs : List AV)
  deriving Inhabited

/-- What a name stands for: a block; an array that may grow (nil, or a block and how many elements it takes), with how often it was laid anew. -/
inductive Ref where
  | unset | blk (b : Nat) | arr (r : Option (Nat × Nat)) (g : Nat)
  deriving DecidableEq, Inhabited

def Ref.at : Ref → Option Nat
  | .blk b => some b
  | .arr (some (b, _)) _ => some b
  | _ => none

def Ref.le : Ref → Ref → Prop
  | .unset, _ => True
  | .blk b, s => s = .blk b
  | .arr r g, s => ∃ r' g', s = .arr r' g' ∧ (g < g' ∨ (g = g' ∧ r = r'))

theorem Ref.le_refl (r : Ref) : r.le r := by
  cases r with
  | unset => trivial
  | blk b => rfl
  | arr r g => exact ⟨r, g, rfl, .inr ⟨rfl, rfl⟩⟩
theorem Ref.le_trans {a b c : Ref} (h : a.le b) (k : b.le c) : a.le c := by
  cases a with
  | unset => trivial
  | blk x => obtain rfl : b = .blk x := h; exact k
  | arr r g =>
    obtain ⟨r', g', rfl, h⟩ := h
    obtain ⟨r2, g2, rfl, k⟩ := k
    refine ⟨r2, g2, rfl, ?_⟩
    rcases h with h | ⟨rfl, rfl⟩
    · rcases k with k | ⟨rfl, rfl⟩
      · exact .inl (by omega)
      · exact .inl h
    · exact k

inductive AO where
  | cells (T : TypeId) (cs : List AV)
  | arr (T : TypeId) (e g : Nat) (rows : List (List AV))
  | imap (es : List (Int × AV))
  | raw (o : Obj)
  | loop (ps : List Nat) (asg body : Code) (t : List AV) (nd : Nat)
  | loopD (j : Code)

structure Env where
  w : World
  φ : Nat → Ref
  σ : Nat → Option AO

def upd {α : Type} (f : Nat → α) (n : Nat) (x : α) : Nat → α := fun m => if m = n then x else f m
theorem upd_same {α : Type} (f : Nat → α) (n : Nat) (x : α) : upd f n x n = x := by simp [upd]
theorem upd_ne {α : Type} (f : Nat → α) {n m : Nat} (x : α) (h : m ≠ n) : upd f n x m = f m := by simp [upd, h]
theorem upd_idem {α : Type} (f : Nat → α) (n : Nat) (x y : α) : upd (upd f n x) n y = upd f n y := by funext m; by_cases h : m = n <;> simp [upd, h]
theorem upd_self {α : Type} (f : Nat → α) (n : Nat) {x : α} (h : f n = x) : upd f n x = f := by funext m; by_cases h' : m = n <;> simp [upd, h', h]
theorem upd_comm {α : Type} (f : Nat → α) {n m : Nat} (x y : α) (h : n ≠ m) : upd (upd f n x) m y = upd (upd f m y) n x := by
  funext k; by_cases h1 : k = m <;> by_cases h2 : k = n <;> simp_all [upd]

def Env.own (R : Env) (b : Nat) : Prop := ∃ n o, R.σ n = some o ∧ (R.φ n).at = some b

mutual
def VRel (R : Env) : AV → Value → Prop
  | .junk, _ => True
  | .bool b, v => v = .bool b
  | .int k n, v => v = .int k n
  | .str s, v => v = .string ⟨s.toArray⟩
  | .nilp, v => v = .pointer none
  | .ptr n o, v => ∃ b, R.φ n = .blk b ∧ v = .pointer (some ⟨b, o, none⟩)
  | .ap n g e i o, v => ∃ a, v = .pointer (some a) ∧ ∃ r g', R.φ n = .arr r g' ∧ g ≤ g' ∧ (g = g' → ∃ b c, r = some (b, c) ∧ a = ⟨b, i * e + o, none⟩)
  | .pp rows i o, v => ∃ b off e, v = .pointer (some ⟨b, off + i * e + o, none⟩) ∧ b < R.w.heap.size ∧ ¬ R.own b ∧ RowsAt R b e off rows
  | .nils, v => v = .slice none 0 0
  | .sle, v => ∃ a c, v = .slice (some a) 0 c
  | .sl rows, v => ∃ a c, v = .slice a rows.length c ∧ rows.length ≤ c ∧ ((rows = [] ∧ (a = none → c = 0)) ∨ ∃ b off e, a = some ⟨b, off, none⟩ ∧ b < R.w.heap.size ∧ ¬ R.own b ∧ RowsAt R b e off rows)
  | .os n g len, v => ∃ a c, v = .slice a len c ∧ ∃ r g', R.φ n = .arr r g' ∧ g ≤ g' ∧ (g = g' → (r = none ∧ len = 0 ∧ a = none ∧ c = 0) ∨ ∃ b, r = some (b, c) ∧ len ≤ c ∧ a = some ⟨b, 0, none⟩)
  | .ow n g e off len, v => ∃ a c, v = .slice a len c ∧ len ≤ c ∧ ∃ r g', R.φ n = .arr r g' ∧ g ≤ g' ∧ (g = g' → ∃ b cap, r = some (b, cap) ∧ off + c = cap ∧ (c = 0 ∨ a = some ⟨b, off * e, none⟩))
  | .nilm, v => v = .map none
  | .map n, v => ∃ b, R.φ n = .blk b ∧ v = .map (some b)
  | .fn f fs cs, v => ∃ fs' cs', v = .func f fs' cs' ∧ LRel R fs fs'.toList ∧ LRel R cs cs'.toList
  | .yld n, v => ∃ b, R.φ n = .blk b ∧ v = .func (.yield b) #[] #[]
  | .nilf, v => v = .nilFunc
  | .agg cs, v => ∃ vs, v = .agg vs ∧ LRel R cs vs.toList
  | .tup cs, v => ∃ vs, v = .tuple vs ∧ LRel R cs vs.toList
def CellsAt (R : Env) (b : Nat) : Nat → List AV → Prop
  | _, [] => True
  | off, x :: xs => (∃ v, R.w.cell? ⟨b, off, none⟩ = some v ∧ VRel R x v) ∧ CellsAt R b (off + 1) xs
def RowsAt (R : Env) (b e : Nat) : Nat → List (List AV) → Prop
  | _, [] => True
  | off, r :: rs => r.length = e ∧ CellsAt R b off r ∧ RowsAt R b e (off + e) rs
def LRel (R : Env) : List AV → List Value → Prop
  | [], vs => vs = []
  | x :: xs, vs => ∃ v vs', vs = v :: vs' ∧ VRel R x v ∧ LRel R xs vs'
end

/-! ### How a state goes on -/
structure Ext (R R' : Env) : Prop where
  os : R'.w.os = R.w.os
  tape : R'.w.tape = R.w.tape
  output : R'.w.output = R.w.output
  size : R.w.heap.size ≤ R'.w.heap.size
  ref : ∀ n, (R.φ n).le (R'.φ n)
  keep : ∀ b, b < R.w.heap.size → ¬ R.own b → R'.w.heap[b]? = R.w.heap[b]? ∧ ¬ R'.own b

theorem Ext.refl (R : Env) : Ext R R := ⟨rfl, rfl, rfl, Nat.le_refl _, fun _ => Ref.le_refl _, fun _ _ h => ⟨rfl, h⟩⟩
theorem Ext.trans {A B C : Env} (h : Ext A B) (k : Ext B C) : Ext A C :=
  ⟨k.os.trans h.os, k.tape.trans h.tape, k.output.trans h.output, Nat.le_trans h.size k.size, fun n => Ref.le_trans (h.ref n) (k.ref n), fun b hb ho => by
    obtain ⟨h1, h2⟩ := h.keep b hb ho
    obtain ⟨k1, k2⟩ := k.keep b (Nat.lt_of_lt_of_le hb h.size) h2
    exact ⟨k1.trans h1, k2⟩⟩

theorem Ext.cell {R R' : Env} (h : Ext R R') {b off : Nat} {v : Value} (ho : ¬ R.own b) (hc : R.w.cell? ⟨b, off, none⟩ = some v) : R'.w.cell? ⟨b, off, none⟩ = some v := by
  have hb : b < R.w.heap.size := World.block_lt_of_cell? _ ⟨b, off, none⟩ hc
  rw [← hc]
  exact World.cell?_of_block (w := R.w) (h.keep b hb ho).1

theorem Ext.set {R R' : Env} (h : Ext R R') {n b : Nat} (hn : R.φ n = .blk b) : R'.φ n = .blk b := by
  have := h.ref n; rw [hn] at this; exact this
theorem Ext.grown {R R' : Env} (h : Ext R R') {n g : Nat} {r : Option (Nat × Nat)} (hn : R.φ n = .arr r g) : ∃ r' g', R'.φ n = .arr r' g' ∧ (g < g' ∨ (g = g' ∧ r = r')) := by
  have := h.ref n; rw [hn] at this; exact this

mutual
theorem VRel.mono {R R' : Env} (h : Ext R R') : ∀ (x : AV) (v : Value), VRel R x v → VRel R' x v
  | .junk, _, _ => trivial
  | .bool _, _, hv => hv
  | .int _ _, _, hv => hv
  | .str _, _, hv => hv
  | .nilp, _, hv => hv
  | .ptr n o, _, hv => by obtain ⟨b, h1, h2⟩ := hv; exact ⟨b, h.set h1, h2⟩
  | .ap n g e i o, _, hv => by
    obtain ⟨a, ha, r, g', h1, h2, h3⟩ := hv
    obtain ⟨r2, g2, k1, k2⟩ := h.grown h1
    refine ⟨a, ha, r2, g2, k1, by omega, fun e => ?_⟩
    rcases k2 with k2 | ⟨rfl, rfl⟩
    · omega
    · exact h3 e
  | .pp rows i o, _, hv => by
    obtain ⟨b, off, e, h1, h2, h3, h4⟩ := hv
    obtain ⟨k1, k2⟩ := h.keep b h2 h3
    exact ⟨b, off, e, h1, Nat.lt_of_lt_of_le h2 h.size, k2, RowsAt.mono h k1 rows off h4⟩
  | .nils, _, hv => hv
  | .sle, _, hv => hv
  | .sl rows, _, hv => by
    obtain ⟨a, c, h1, h1', h2⟩ := hv
    refine ⟨a, c, h1, h1', ?_⟩
    rcases h2 with h2 | ⟨b, off, e, h2, h3, h4, h5⟩
    · exact .inl h2
    · obtain ⟨k1, k2⟩ := h.keep b h3 h4
      exact .inr ⟨b, off, e, h2, Nat.lt_of_lt_of_le h3 h.size, k2, RowsAt.mono h k1 rows off h5⟩
  | .os n g len, _, hv => by
    obtain ⟨a, c, ha, r, g', h1, h2, h3⟩ := hv
    obtain ⟨r2, g2, k1, k2⟩ := h.grown h1
    refine ⟨a, c, ha, r2, g2, k1, by omega, fun e => ?_⟩
    rcases k2 with k2 | ⟨rfl, rfl⟩
    · omega
    · exact h3 e
  | .ow n g e off len, _, hv => by
    obtain ⟨a, c, ha, hc, r, g', h1, h2, h3⟩ := hv
    obtain ⟨r2, g2, k1, k2⟩ := h.grown h1
    refine ⟨a, c, ha, hc, r2, g2, k1, by omega, fun e => ?_⟩
    rcases k2 with k2 | ⟨rfl, rfl⟩
    · omega
    · exact h3 e
  | .nilm, _, hv => hv
  | .map n, _, hv => by obtain ⟨b, h1, h2⟩ := hv; exact ⟨b, h.set h1, h2⟩
  | .yld n, _, hv => by obtain ⟨b, h1, h2⟩ := hv; exact ⟨b, h.set h1, h2⟩
  | .fn f fs cs, _, hv => by
    obtain ⟨fs', cs', h1, h2, h3⟩ := hv
    exact ⟨fs', cs', h1, LRel.mono h _ _ h2, LRel.mono h _ _ h3⟩
  | .nilf, _, hv => hv
  | .agg cs, _, hv => by
    obtain ⟨vs, h1, h2⟩ := hv
    exact ⟨vs, h1, LRel.mono h _ _ h2⟩
  | .tup cs, _, hv => by
    obtain ⟨vs, h1, h2⟩ := hv
    exact ⟨vs, h1, LRel.mono h _ _ h2⟩
theorem CellsAt.mono {R R' : Env} (h : Ext R R') {b : Nat} (hb : R'.w.heap[b]? = R.w.heap[b]?) : ∀ (xs : List AV) (off : Nat), CellsAt R b off xs → CellsAt R' b off xs
  | [], _, _ => trivial
  | x :: xs, off, hv => by
    obtain ⟨⟨v, h1, h2⟩, h3⟩ := hv
    exact ⟨⟨v, (World.cell?_of_block (w := R.w) (a := ⟨b, off, none⟩) hb).trans h1, VRel.mono h x v h2⟩, CellsAt.mono h hb xs _ h3⟩
theorem RowsAt.mono {R R' : Env} (h : Ext R R') {b e : Nat} (hb : R'.w.heap[b]? = R.w.heap[b]?) : ∀ (rs : List (List AV)) (off : Nat), RowsAt R b e off rs → RowsAt R' b e off rs
  | [], _, _ => trivial
  | r :: rs, off, hv => by
    obtain ⟨h1, h2, h3⟩ := hv
    exact ⟨h1, CellsAt.mono h hb r _ h2, RowsAt.mono h hb rs _ h3⟩
theorem LRel.mono {R R' : Env} (h : Ext R R') : ∀ (xs : List AV) (vs : List Value), LRel R xs vs → LRel R' xs vs
  | [], _, hv => hv
  | x :: xs, _, hv => by
    obtain ⟨v, vs', h1, h2, h3⟩ := hv
    exact ⟨v, vs', h1, VRel.mono h x v h2, LRel.mono h xs vs' h3⟩
end

/-! ### Lists of values -/
theorem LRel.length {R : Env} : ∀ {xs : List AV} {vs : List Value}, LRel R xs vs → vs.length = xs.length
  | [], _, h => by rw [show _ = _ from h]; rfl
  | x :: xs, _, h => by obtain ⟨v, vs', rfl, _, h⟩ := h; simp [LRel.length h]
theorem LRel.append {R : Env} : ∀ {xs ys : List AV} {vs us : List Value}, LRel R xs vs → LRel R ys us → LRel R (xs ++ ys) (vs ++ us)
  | [], _, _, _, h, k => by obtain rfl : _ = [] := h; simpa using k
  | x :: xs, _, _, _, h, k => by obtain ⟨v, vs', rfl, h1, h2⟩ := h; exact ⟨v, _, by simp, h1, LRel.append h2 k⟩
theorem LRel.get {R : Env} : ∀ {xs : List AV} {vs : List Value} (i : Nat) {x : AV}, LRel R xs vs → xs[i]? = some x → ∃ v, vs[i]? = some v ∧ VRel R x v
  | [], _, i, _, _, e => by simp at e
  | y :: xs, _, 0, x, h, e => by obtain ⟨v, vs', rfl, h1, _⟩ := h; simp at e; subst e; exact ⟨v, by simp, h1⟩
  | y :: xs, _, i + 1, x, h, e => by obtain ⟨v, vs', rfl, _, h2⟩ := h; simp at e; simpa using LRel.get i h2 e
theorem LRel.take {R : Env} : ∀ {xs : List AV} {vs : List Value} (n : Nat), LRel R xs vs → LRel R (xs.take n) (vs.take n)
  | _, _, 0, _ => by simp [LRel]
  | [], _, n + 1, h => by obtain rfl : _ = [] := h; simp [LRel]
  | x :: xs, _, n + 1, h => by obtain ⟨v, vs', rfl, h1, h2⟩ := h; exact ⟨v, _, by simp, h1, LRel.take n h2⟩
theorem LRel.drop {R : Env} : ∀ {xs : List AV} {vs : List Value} (n : Nat), LRel R xs vs → LRel R (xs.drop n) (vs.drop n)
  | _, _, 0, h => by simpa using h
  | [], _, n + 1, h => by obtain rfl : _ = [] := h; simp [LRel]
  | x :: xs, _, n + 1, h => by obtain ⟨v, vs', rfl, _, h2⟩ := h; simpa using LRel.drop n h2
theorem LRel.set {R : Env} : ∀ {xs : List AV} {vs : List Value} (i : Nat) {x : AV} {v : Value}, LRel R xs vs → VRel R x v → LRel R (xs.set i x) (vs.set i v)
  | [], _, i, _, _, h, _ => by obtain rfl : _ = [] := h; simp [LRel]
  | y :: xs, _, 0, x, v, h, k => by obtain ⟨u, vs', rfl, _, h2⟩ := h; exact ⟨v, vs', by simp, k, h2⟩
  | y :: xs, _, i + 1, x, v, h, k => by obtain ⟨u, vs', rfl, h1, h2⟩ := h; exact ⟨u, _, by simp, h1, LRel.set i h2 k⟩
theorem LRel.two {R : Env} {xs : List AV} {ys : List AV} {vs : List Value} (h : LRel R (xs ++ ys) vs) : ∃ us ws, vs = us ++ ws ∧ LRel R xs us ∧ LRel R ys ws := by
  refine ⟨vs.take xs.length, vs.drop xs.length, (List.take_append_drop _ _).symm, ?_, ?_⟩
  · have := LRel.take xs.length h; simpa using this
  · have := LRel.drop xs.length h; simpa using this

/-! ### Cells in a block -/
theorem CellsAt.get {R : Env} {b : Nat} : ∀ {xs : List AV} {off : Nat} (i : Nat) {x : AV}, CellsAt R b off xs → xs[i]? = some x → ∃ v, R.w.cell? ⟨b, off + i, none⟩ = some v ∧ VRel R x v
  | [], _, i, _, _, e => by simp at e
  | y :: xs, off, 0, x, h, e => by obtain ⟨⟨v, h1, h2⟩, _⟩ := h; simp at e; subst e; exact ⟨v, by simpa using h1, h2⟩
  | y :: xs, off, i + 1, x, h, e => by
    obtain ⟨_, h⟩ := h
    have := CellsAt.get (off := off + 1) i h (by simpa using e)
    rwa [show off + 1 + i = off + (i + 1) by omega] at this
theorem CellsAt.of_get {R : Env} {b : Nat} : ∀ {xs : List AV} {off : Nat}, (∀ i x, xs[i]? = some x → ∃ v, R.w.cell? ⟨b, off + i, none⟩ = some v ∧ VRel R x v) → CellsAt R b off xs
  | [], _, _ => trivial
  | y :: xs, off, h => by
    refine ⟨by simpa using h 0 y (by simp), CellsAt.of_get fun i x e => ?_⟩
    have := h (i + 1) x (by simpa using e)
    rwa [show off + 1 + i = off + (i + 1) by omega]
theorem CellsAt.drop {R : Env} {b off : Nat} {xs : List AV} (n : Nat) (h : CellsAt R b off xs) : CellsAt R b (off + n) (xs.drop n) :=
  CellsAt.of_get fun i x e => by
    rw [List.getElem?_drop] at e
    have := CellsAt.get (n + i) h e
    rwa [show off + n + i = off + (n + i) by omega]
theorem CellsAt.append {R : Env} {b : Nat} : ∀ {xs ys : List AV} {off : Nat}, CellsAt R b off xs → CellsAt R b (off + xs.length) ys → CellsAt R b off (xs ++ ys)
  | [], _, off, _, k => by simpa using k
  | x :: xs, ys, off, h, k => by
    obtain ⟨h1, h2⟩ := h
    exact ⟨h1, CellsAt.append h2 (by rwa [show off + 1 + xs.length = off + (x :: xs).length by simp; omega])⟩
theorem RowsAt.get {R : Env} {b e : Nat} : ∀ {rs : List (List AV)} {off : Nat} (i : Nat) {r : List AV}, RowsAt R b e off rs → rs[i]? = some r → r.length = e ∧ CellsAt R b (off + i * e) r
  | [], _, i, _, _, k => by simp at k
  | y :: rs, off, 0, r, h, k => by obtain ⟨h1, h2, _⟩ := h; simp at k; subst k; exact ⟨h1, by simpa using h2⟩
  | y :: rs, off, i + 1, r, h, k => by
    obtain ⟨_, _, h⟩ := h
    have := RowsAt.get (off := off + e) i h (by simpa using k)
    rwa [show off + e + i * e = off + (i + 1) * e by rw [Nat.add_mul]; omega] at this
theorem RowsAt.of_get {R : Env} {b e : Nat} : ∀ {rs : List (List AV)} {off : Nat}, (∀ i r, rs[i]? = some r → r.length = e ∧ CellsAt R b (off + i * e) r) → RowsAt R b e off rs
  | [], _, _ => trivial
  | y :: rs, off, h => by
    obtain ⟨h1, h2⟩ := h 0 y (by simp)
    refine ⟨h1, by simpa using h2, RowsAt.of_get fun i r k => ?_⟩
    have := h (i + 1) r (by simpa using k)
    rwa [show off + e + i * e = off + (i + 1) * e by rw [Nat.add_mul]; omega]
theorem RowsAt.append {R : Env} {b e off : Nat} {rs ss : List (List AV)} (h : RowsAt R b e off rs) (k : RowsAt R b e (off + rs.length * e) ss) : RowsAt R b e off (rs ++ ss) := by
  refine RowsAt.of_get fun i r hi => ?_
  by_cases hlt : i < rs.length
  · rw [List.getElem?_append_left hlt] at hi; exact RowsAt.get i h hi
  · rw [List.getElem?_append_right (by omega)] at hi
    have := RowsAt.get (i - rs.length) k hi
    rwa [show off + rs.length * e + (i - rs.length) * e = off + i * e by
      rw [Nat.add_assoc, ← Nat.add_mul, show rs.length + (i - rs.length) = i by omega]] at this
theorem RowsAt.take {R : Env} {b e off : Nat} {rs : List (List AV)} (n : Nat) (h : RowsAt R b e off rs) : RowsAt R b e off (rs.take n) :=
  RowsAt.of_get fun i r hi => by
    rw [List.getElem?_take] at hi
    split at hi
    · exact RowsAt.get i h hi
    · cases hi
theorem RowsAt.drop {R : Env} {b e off : Nat} {rs : List (List AV)} (n : Nat) (h : RowsAt R b e off rs) : RowsAt R b e (off + n * e) (rs.drop n) :=
  RowsAt.of_get fun i r hi => by
    rw [List.getElem?_drop] at hi
    have := RowsAt.get (n + i) h hi
    rwa [show off + n * e + i * e = off + (n + i) * e by rw [Nat.add_mul]; omega]

/-! ### Objects -/
def ERel (R : Env) : List (Int × AV) → List MapEntry → Prop
  | [], es => es = []
  | (k, x) :: xs, es => ∃ v c es', es = { key := .int .i64 k, val := v, born := c } :: es' ∧ VRel R x v ∧ ERel R xs es'
theorem ERel.mono {R R' : Env} (h : Ext R R') : ∀ {xs : List (Int × AV)} {es : List MapEntry}, ERel R xs es → ERel R' xs es
  | [], _, k => k
  | (k, x) :: xs, _, hk => by obtain ⟨v, c, es', h1, h2, h3⟩ := hk; exact ⟨v, c, es', h1, VRel.mono h _ _ h2, ERel.mono h h3⟩

/-- The stamps of a map's entries rise, and lie below its clock. -/
def stamps (es : List MapEntry) (clock : Nat) : Prop := (es.map (·.born)).Pairwise (· < ·) ∧ ∀ e, e ∈ es → e.born < clock

def ORel (R : Env) (n : Nat) : AO → Prop
  | .cells T cs => ∃ b vs, R.φ n = .blk b ∧ R.w.heap[b]? = some (.cells vs T (0, 0)) ∧ vs.size = cs.length ∧ CellsAt R b 0 cs
  | .arr T e g rows => (R.φ n = .arr none g ∧ rows = []) ∨ ∃ b c vs, R.φ n = .arr (some (b, c)) g ∧ R.w.heap[b]? = some (.cells vs T (0, 0)) ∧ c ≤ maxLen ∧ vs.size = c * e ∧ rows.length ≤ c ∧ RowsAt R b e 0 rows
  | .imap es => ∃ b ents clock, R.φ n = .blk b ∧ R.w.heap[b]? = some (.map ents clock) ∧ stamps ents.toList clock ∧ ERel R es ents.toList
  | .raw o => ∃ b, R.φ n = .blk b ∧ R.w.heap[b]? = some o
  | .loop ps asg body t nd => ∃ b rec, R.φ n = .blk b ∧ R.w.heap[b]? = some (.loop rec) ∧ rec.state = .ready ∧ rec.pending = none ∧ rec.params.toList = ps ∧ rec.assign = asg ∧ rec.body = body ∧ LRel R t rec.tmps.toList ∧ R.φ nd = .blk rec.defers
  | .loopD j => ∃ b rec, R.φ n = .blk b ∧ R.w.heap[b]? = some (.loop rec) ∧ rec.state = .done ∧ rec.pending = some j

/-- Nothing is told anew of the object: its name and its block stand as they stood. -/
theorem ORel.mono {R R' : Env} (h : Ext R R') {n : Nat} (hn : R'.φ n = R.φ n) (hb : ∀ b, (R.φ n).at = some b → R'.w.heap[b]? = R.w.heap[b]?) : ∀ {o : AO}, ORel R n o → ORel R' n o
  | .cells T cs, k => by
    obtain ⟨b, vs, h1, h2, h3, h4⟩ := k
    have e := hb b (by rw [h1]; rfl)
    exact ⟨b, vs, hn.trans h1, e.trans h2, h3, CellsAt.mono h e _ _ h4⟩
  | .arr T e g rows, k => by
    rcases k with ⟨h1, h2⟩ | ⟨b, c, vs, h1, h2, h3, h4, h5, h6⟩
    · exact .inl ⟨hn.trans h1, h2⟩
    · have e := hb b (by rw [h1]; rfl)
      exact .inr ⟨b, c, vs, hn.trans h1, e.trans h2, h3, h4, h5, RowsAt.mono h e _ _ h6⟩
  | .imap es, k => by
    obtain ⟨b, ents, clock, h1, h2, h3, h4⟩ := k
    exact ⟨b, ents, clock, hn.trans h1, (hb b (by rw [h1]; rfl)).trans h2, h3, ERel.mono h h4⟩
  | .raw o, k => by
    obtain ⟨b, h1, h2⟩ := k
    exact ⟨b, hn.trans h1, (hb b (by rw [h1]; rfl)).trans h2⟩
  | .loop ps asg body t nd, k => by
    obtain ⟨b, rec, h1, h2, h3, h4, h5, h6, h7, h8, h9⟩ := k
    exact ⟨b, rec, hn.trans h1, (hb b (by rw [h1]; rfl)).trans h2, h3, h4, h5, h6, h7, LRel.mono h _ _ h8, h.set h9⟩
  | .loopD j, k => by
    obtain ⟨b, rec, h1, h2, h3⟩ := k
    exact ⟨b, rec, hn.trans h1, (hb b (by rw [h1]; rfl)).trans h2, h3⟩

theorem ORel.lt {R : Env} {n b : Nat} {o : AO} (h : ORel R n o) (hn : (R.φ n).at = some b) : b < R.w.heap.size := by
  have key : ∀ b' o', (R.φ n).at = some b' → R.w.heap[b']? = some o' → b < R.w.heap.size := fun b' o' h1 h2 => by
    rw [hn] at h1; cases h1
    exact (Array.getElem?_eq_some_iff.1 h2).1
  cases o with
  | cells T cs => obtain ⟨_, _, h1, h2, _⟩ := h; exact key _ _ (by rw [h1]; rfl) h2
  | arr T e g rows =>
    rcases h with ⟨h1, _⟩ | ⟨_, _, _, h1, h2, _⟩
    · rw [h1] at hn; cases hn
    · exact key _ _ (by rw [h1]; rfl) h2
  | imap es => obtain ⟨_, _, _, h1, h2, _⟩ := h; exact key _ _ (by rw [h1]; rfl) h2
  | raw o => obtain ⟨_, h1, h2⟩ := h; exact key _ _ (by rw [h1]; rfl) h2
  | loop ps asg body t nd => obtain ⟨_, _, h1, h2, _⟩ := h; exact key _ _ (by rw [h1]; rfl) h2
  | loopD j => obtain ⟨_, _, h1, h2, _⟩ := h; exact key _ _ (by rw [h1]; rfl) h2

theorem ORel.set {R : Env} {n : Nat} {o : AO} (h : ORel R n o) : R.φ n ≠ .unset := by
  cases o with
  | cells T cs => obtain ⟨_, _, h1, _⟩ := h; rw [h1]; simp
  | arr T e g rows => rcases h with ⟨h1, _⟩ | ⟨_, _, _, h1, _⟩ <;> rw [h1] <;> simp
  | imap es => obtain ⟨_, _, _, h1, _⟩ := h; rw [h1]; simp
  | raw o => obtain ⟨_, h1, _⟩ := h; rw [h1]; simp
  | loop ps asg body t nd => obtain ⟨_, _, h1, _⟩ := h; rw [h1]; simp
  | loopD j => obtain ⟨_, _, h1, _⟩ := h; rw [h1]; simp

structure SRel (R : Env) : Prop where
  obj : ∀ n o, R.σ n = some o → ORel R n o
  inj : ∀ n n' o o' b, R.σ n = some o → R.σ n' = some o' → (R.φ n).at = some b → (R.φ n').at = some b → n = n'

theorem SRel.own_lt {R : Env} (h : SRel R) {b : Nat} (hb : R.own b) : b < R.w.heap.size := by
  obtain ⟨n, o, h1, h2⟩ := hb
  exact (h.obj n o h1).lt h2

/-- The world turns in nothing that is told. -/
theorem Ext.same {w w' : World} {φ : Nat → Ref} {σ : Nat → Option AO} (h1 : w'.heap = w.heap) (h2 : w'.os = w.os) (h3 : w'.tape = w.tape) (h4 : w'.output = w.output) : Ext ⟨w, φ, σ⟩ ⟨w', φ, σ⟩ :=
  ⟨h2, h3, h4, by simp [h1], fun _ => Ref.le_refl _, fun _ _ ho => ⟨by simp [h1], ho⟩⟩
theorem SRel.same {w w' : World} {φ : Nat → Ref} {σ : Nat → Option AO} (h : SRel ⟨w, φ, σ⟩) (h1 : w'.heap = w.heap) (h2 : w'.os = w.os) (h3 : w'.tape = w.tape) (h4 : w'.output = w.output) : SRel ⟨w', φ, σ⟩ :=
  ⟨fun n o hn => (h.obj n o hn).mono (Ext.same h1 h2 h3 h4) rfl (fun _ _ => by simp [h1]), h.inj⟩

/-- A new block that nothing is told of but by value. -/
theorem Ext.alloc0 {w : World} {φ : Nat → Ref} {σ : Nat → Option AO} (o : Obj) : Ext ⟨w, φ, σ⟩ ⟨w.alloc o, φ, σ⟩ :=
  ⟨rfl, rfl, rfl, by simp, fun _ => Ref.le_refl _, fun b hb ho => ⟨Below.heap_alloc w o b hb, ho⟩⟩
theorem SRel.alloc0 {w : World} {φ : Nat → Ref} {σ : Nat → Option AO} (h : SRel ⟨w, φ, σ⟩) (o : Obj) : SRel ⟨w.alloc o, φ, σ⟩ :=
  ⟨fun n o' hn => (h.obj n o' hn).mono (Ext.alloc0 o) rfl (fun b hb => Below.heap_alloc w o b ((h.obj n o' hn).lt hb)), h.inj⟩

/-- The block of a name that lives. -/
def oldAt (φ : Nat → Ref) (σ : Nat → Option AO) (n : Nat) : Option Nat := if (σ n).isSome then (φ n).at else none

/-- **One step on one name**: a new block for a new name; a name's block written; a name's array laid anew. -/
theorem Ext.turn {w w' : World} {φ : Nat → Ref} {σ : Nat → Option AO} {n : Nat} {ρ : Ref} (y : AO)
    (h0 : w.heap.size ≤ w'.heap.size) (h2 : w'.os = w.os) (h3 : w'.tape = w.tape) (h4 : w'.output = w.output) (hle : (φ n).le ρ)
    (hk : ∀ k, k < w.heap.size → oldAt φ σ n ≠ some k → w'.heap[k]? = w.heap[k]?) (hat : ∀ b, ρ.at = some b → oldAt φ σ n = some b ∨ w.heap.size ≤ b) :
    Ext ⟨w, φ, σ⟩ ⟨w', upd φ n ρ, upd σ n (some y)⟩ := by
  refine ⟨h2, h3, h4, h0, fun m => ?_, fun k hk' ho => ?_⟩
  · by_cases e : m = n
    · subst e; simp only [upd_same]; exact hle
    · simp only [upd_ne _ _ e]; exact Ref.le_refl _
  · have h1 : oldAt φ σ n ≠ some k := fun e => by
      unfold oldAt at e
      split at e
      · rename_i hs
        obtain ⟨x, hx⟩ := Option.isSome_iff_exists.1 hs
        exact ho ⟨n, x, hx, e⟩
      · cases e
    refine ⟨hk k hk' h1, ?_⟩
    rintro ⟨m, z, e1, e2⟩
    by_cases e : m = n
    · subst e
      simp only [upd_same] at e2
      rcases hat k e2 with h | h
      · exact h1 h
      · exact absurd hk' (Nat.not_lt.2 h)
    · simp only [upd_ne _ _ e] at e1 e2
      exact ho ⟨m, z, e1, e2⟩
theorem SRel.turn {w w' : World} {φ : Nat → Ref} {σ : Nat → Option AO} (h : SRel ⟨w, φ, σ⟩) {n : Nat} {ρ : Ref} {y : AO}
    (h0 : w.heap.size ≤ w'.heap.size) (h2 : w'.os = w.os) (h3 : w'.tape = w.tape) (h4 : w'.output = w.output) (hle : (φ n).le ρ)
    (hk : ∀ k, k < w.heap.size → oldAt φ σ n ≠ some k → w'.heap[k]? = w.heap[k]?) (hat : ∀ b, ρ.at = some b → oldAt φ σ n = some b ∨ w.heap.size ≤ b)
    (hy : ORel ⟨w', upd φ n ρ, upd σ n (some y)⟩ n y) : SRel ⟨w', upd φ n ρ, upd σ n (some y)⟩ := by
  have hne : ∀ m z b, m ≠ n → σ m = some z → (φ m).at = some b → ρ.at ≠ some b := fun m z b e hm hb e' => by
    rcases hat b e' with h5 | h5
    · unfold oldAt at h5
      split at h5
      · rename_i hs
        obtain ⟨x, hx⟩ := Option.isSome_iff_exists.1 hs
        exact e (h.inj m n z x b hm hx hb h5)
      · cases h5
    · have := (h.obj m z hm).lt hb
      exact absurd this (Nat.not_lt.2 h5)
  refine ⟨fun m z hm => ?_, fun m m' z z' b e1 e2 e3 e4 => ?_⟩
  · by_cases e : m = n
    · subst e; simp only [upd_same, Option.some.injEq] at hm; subst hm; exact hy
    · simp only [upd_ne _ _ e] at hm
      refine (h.obj m z hm).mono (Ext.turn y h0 h2 h3 h4 hle hk hat) (upd_ne _ _ e) (fun b hb => hk b ((h.obj m z hm).lt hb) fun e5 => ?_)
      unfold oldAt at e5
      split at e5
      · rename_i hs
        obtain ⟨x, hx⟩ := Option.isSome_iff_exists.1 hs
        exact e (h.inj m n z x b hm hx hb e5)
      · cases e5
  · simp only at e1 e2 e3 e4
    by_cases e : m = n <;> by_cases e' : m' = n
    · rw [e, e']
    · subst e; simp only [upd_same, upd_ne _ _ e'] at e2 e3 e4; exact absurd e3 (hne m' z' b e' e2 e4)
    · subst e'; simp only [upd_same, upd_ne _ _ e] at e1 e3 e4; exact absurd e4 (hne m z b e e1 e3)
    · simp only [upd_ne _ _ e, upd_ne _ _ e'] at e1 e2 e3 e4; exact h.inj m m' z z' b e1 e2 e3 e4

/-- A name is given up: what it stood for is told by value, or no more. -/
theorem Ext.kill {w : World} {φ : Nat → Ref} {σ : Nat → Option AO} (n : Nat) : Ext ⟨w, φ, σ⟩ ⟨w, φ, upd σ n none⟩ :=
  ⟨rfl, rfl, rfl, Nat.le_refl _, fun _ => Ref.le_refl _, fun k _ ho => ⟨rfl, by
    rintro ⟨m, z, e1, e2⟩
    by_cases e : m = n
    · subst e; simp [upd_same] at e1
    · simp only [upd_ne _ _ e] at e1; exact ho ⟨m, z, e1, e2⟩⟩⟩
theorem SRel.kill {w : World} {φ : Nat → Ref} {σ : Nat → Option AO} (h : SRel ⟨w, φ, σ⟩) (n : Nat) : SRel ⟨w, φ, upd σ n none⟩ := by
  have g : ∀ m z, upd σ n none m = some z → σ m = some z := fun m z hm => by
    by_cases e : m = n
    · subst e; simp [upd_same] at hm
    · rwa [upd_ne _ _ e] at hm
  exact ⟨fun m z hm => (h.obj m z (g m z hm)).mono (Ext.kill n) rfl (fun _ _ => rfl), fun m m' z z' k e1 e2 => h.inj m m' z z' k (g _ _ e1) (g _ _ e2)⟩

/-! ### Values that name nothing from a bound on -/
mutual
def AV.lt (c : Nat) : AV → Prop
  | .ptr n _ => n < c
  | .ap n _ _ _ _ => n < c
  | .os n _ _ => n < c
  | .ow n _ _ _ _ => n < c
  | .map n => n < c
  | .yld n => n < c
  | .pp rows _ _ => rowsLt c rows
  | .sl rows => rowsLt c rows
  | .fn _ fs cs => listLt c fs ∧ listLt c cs
  | .agg cs => listLt c cs
  | .tup vs => listLt c vs
  | _ => True
def listLt (c : Nat) : List AV → Prop
  | [] => True
  | x :: xs => x.lt c ∧ listLt c xs
def rowsLt (c : Nat) : List (List AV) → Prop
  | [] => True
  | r :: rs => listLt c r ∧ rowsLt c rs
end
def AO.lt (c : Nat) : AO → Prop
  | .cells _ cs => listLt c cs
  | .arr _ _ _ rows => rowsLt c rows
  | .imap es => listLt c (es.map (·.2))
  | .raw _ => True
  | .loop _ _ _ t nd => listLt c t ∧ nd < c
  | .loopD _ => True

/-- What a name stood for is forgotten from a bound on. -/
def cutφ (c : Nat) (φ : Nat → Ref) : Nat → Ref := fun n => if n < c then φ n else .unset
theorem cutφ_lt {c n : Nat} (φ : Nat → Ref) (h : n < c) : cutφ c φ n = φ n := by simp [cutφ, h]

section cut
variable {w w' : World} {φ : Nat → Ref} {σ σ' : Nat → Option AO} {c : Nat}
mutual
theorem VRel.cut (hown : ∀ b, Env.own ⟨w, cutφ c φ, σ'⟩ b → Env.own ⟨w, φ, σ⟩ b) : ∀ (x : AV) (v : Value), x.lt c → VRel ⟨w, φ, σ⟩ x v → VRel ⟨w, cutφ c φ, σ'⟩ x v
  | .junk, _, _, _ => trivial
  | .bool _, _, _, hv => hv
  | .int _ _, _, _, hv => hv
  | .str _, _, _, hv => hv
  | .nilp, _, _, hv => hv
  | .ptr n o, _, hl, hv => by obtain ⟨b, h1, h2⟩ := hv; exact ⟨b, (cutφ_lt φ hl).trans h1, h2⟩
  | .ap n g e i o, _, hl, hv => by obtain ⟨a, ha, r, g', h1, h2⟩ := hv; exact ⟨a, ha, r, g', (cutφ_lt φ hl).trans h1, h2⟩
  | .pp rows i o, _, hl, hv => by
    obtain ⟨b, off, e, h1, h2, h3, h4⟩ := hv
    exact ⟨b, off, e, h1, h2, fun h => h3 (hown b h), RowsAt.cut hown rows off hl h4⟩
  | .nils, _, _, hv => hv
  | .sle, _, _, hv => hv
  | .sl rows, _, hl, hv => by
    obtain ⟨a, n, h1, h1', h2⟩ := hv
    refine ⟨a, n, h1, h1', ?_⟩
    rcases h2 with h2 | ⟨b, off, e, h2, h3, h4, h5⟩
    · exact .inl h2
    · exact .inr ⟨b, off, e, h2, h3, fun h => h4 (hown b h), RowsAt.cut hown rows off hl h5⟩
  | .os n g len, _, hl, hv => by obtain ⟨a, cc, ha, r, g', h1, h2⟩ := hv; exact ⟨a, cc, ha, r, g', (cutφ_lt φ hl).trans h1, h2⟩
  | .ow n g e off len, _, hl, hv => by obtain ⟨a, cc, ha, hc, r, g', h1, h2⟩ := hv; exact ⟨a, cc, ha, hc, r, g', (cutφ_lt φ hl).trans h1, h2⟩
  | .nilm, _, _, hv => hv
  | .map n, _, hl, hv => by obtain ⟨b, h1, h2⟩ := hv; exact ⟨b, (cutφ_lt φ hl).trans h1, h2⟩
  | .yld n, _, hl, hv => by obtain ⟨b, h1, h2⟩ := hv; exact ⟨b, (cutφ_lt φ hl).trans h1, h2⟩
  | .fn f fs cs, _, hl, hv => by
    obtain ⟨fs', cs', h1, h2, h3⟩ := hv
    exact ⟨fs', cs', h1, LRel.cut hown _ _ hl.1 h2, LRel.cut hown _ _ hl.2 h3⟩
  | .nilf, _, _, hv => hv
  | .agg cs, _, hl, hv => by obtain ⟨vs, h1, h2⟩ := hv; exact ⟨vs, h1, LRel.cut hown _ _ hl h2⟩
  | .tup cs, _, hl, hv => by obtain ⟨vs, h1, h2⟩ := hv; exact ⟨vs, h1, LRel.cut hown _ _ hl h2⟩
theorem CellsAt.cut (hown : ∀ b, Env.own ⟨w, cutφ c φ, σ'⟩ b → Env.own ⟨w, φ, σ⟩ b) {b : Nat} : ∀ (xs : List AV) (off : Nat), listLt c xs → CellsAt ⟨w, φ, σ⟩ b off xs → CellsAt ⟨w, cutφ c φ, σ'⟩ b off xs
  | [], _, _, _ => trivial
  | x :: xs, off, hl, hv => by
    obtain ⟨⟨v, h1, h2⟩, h3⟩ := hv
    exact ⟨⟨v, h1, VRel.cut hown x v hl.1 h2⟩, CellsAt.cut hown xs _ hl.2 h3⟩
theorem RowsAt.cut (hown : ∀ b, Env.own ⟨w, cutφ c φ, σ'⟩ b → Env.own ⟨w, φ, σ⟩ b) {b e : Nat} : ∀ (rs : List (List AV)) (off : Nat), rowsLt c rs → RowsAt ⟨w, φ, σ⟩ b e off rs → RowsAt ⟨w, cutφ c φ, σ'⟩ b e off rs
  | [], _, _, _ => trivial
  | r :: rs, off, hl, hv => by
    obtain ⟨h1, h2, h3⟩ := hv
    exact ⟨h1, CellsAt.cut hown r _ hl.1 h2, RowsAt.cut hown rs _ hl.2 h3⟩
theorem LRel.cut (hown : ∀ b, Env.own ⟨w, cutφ c φ, σ'⟩ b → Env.own ⟨w, φ, σ⟩ b) : ∀ (xs : List AV) (vs : List Value), listLt c xs → LRel ⟨w, φ, σ⟩ xs vs → LRel ⟨w, cutφ c φ, σ'⟩ xs vs
  | [], _, _, hv => hv
  | x :: xs, _, hl, hv => by
    obtain ⟨v, vs', h1, h2, h3⟩ := hv
    exact ⟨v, vs', h1, VRel.cut hown x v hl.1 h2, LRel.cut hown xs vs' hl.2 h3⟩
end

/-- What can be told under a naming names nothing that is not set. -/
theorem set_lt {φ : Nat → Ref} (h : ∀ n, c ≤ n → φ n = .unset) {n : Nat} (hn : φ n ≠ .unset) : n < c := by
  rcases Nat.lt_or_ge n c with k | k
  · exact k
  · exact absurd (h n k) hn
mutual
theorem VRel.lt {R : Env} (h : ∀ n, c ≤ n → R.φ n = .unset) : ∀ (x : AV) (v : Value), VRel R x v → x.lt c
  | .junk, _, _ => trivial
  | .bool _, _, _ => trivial
  | .int _ _, _, _ => trivial
  | .str _, _, _ => trivial
  | .nilp, _, _ => trivial
  | .ptr n o, _, hv => by obtain ⟨b, h1, _⟩ := hv; exact set_lt h (by rw [h1]; simp)
  | .ap n g e i o, _, hv => by obtain ⟨a, _, r, g', h1, _⟩ := hv; exact set_lt h (by rw [h1]; simp)
  | .pp rows i o, _, hv => by obtain ⟨b, off, e, _, _, _, h4⟩ := hv; exact RowsAt.lt h rows off h4
  | .nils, _, _ => trivial
  | .sle, _, _ => trivial
  | .sl rows, _, hv => by
    obtain ⟨a, n, _, _, h2⟩ := hv
    rcases h2 with ⟨h2, _⟩ | ⟨b, off, e, _, _, _, h5⟩
    · subst h2; exact show rowsLt c [] from trivial
    · exact RowsAt.lt h rows off h5
  | .os n g len, _, hv => by obtain ⟨a, cc, _, r, g', h1, _⟩ := hv; exact set_lt h (by rw [h1]; simp)
  | .ow n g e off len, _, hv => by obtain ⟨a, cc, _, _, r, g', h1, _⟩ := hv; exact set_lt h (by rw [h1]; simp)
  | .nilm, _, _ => trivial
  | .map n, _, hv => by obtain ⟨b, h1, _⟩ := hv; exact set_lt h (by rw [h1]; simp)
  | .yld n, _, hv => by obtain ⟨b, h1, _⟩ := hv; exact set_lt h (by rw [h1]; simp)
  | .fn f fs cs, _, hv => by obtain ⟨fs', cs', _, h2, h3⟩ := hv; exact ⟨LRel.lt h _ _ h2, LRel.lt h _ _ h3⟩
  | .nilf, _, _ => trivial
  | .agg cs, _, hv => by obtain ⟨vs, _, h2⟩ := hv; exact LRel.lt h _ _ h2
  | .tup cs, _, hv => by obtain ⟨vs, _, h2⟩ := hv; exact LRel.lt h _ _ h2
theorem CellsAt.lt {R : Env} (h : ∀ n, c ≤ n → R.φ n = .unset) {b : Nat} : ∀ (xs : List AV) (off : Nat), CellsAt R b off xs → listLt c xs
  | [], _, _ => trivial
  | x :: xs, off, hv => by obtain ⟨⟨v, _, h2⟩, h3⟩ := hv; exact ⟨VRel.lt h x v h2, CellsAt.lt h xs _ h3⟩
theorem RowsAt.lt {R : Env} (h : ∀ n, c ≤ n → R.φ n = .unset) {b e : Nat} : ∀ (rs : List (List AV)) (off : Nat), RowsAt R b e off rs → rowsLt c rs
  | [], _, _ => trivial
  | r :: rs, off, hv => by obtain ⟨_, h2, h3⟩ := hv; exact ⟨CellsAt.lt h r _ h2, RowsAt.lt h rs _ h3⟩
theorem LRel.lt {R : Env} (h : ∀ n, c ≤ n → R.φ n = .unset) : ∀ (xs : List AV) (vs : List Value), LRel R xs vs → listLt c xs
  | [], _, _ => trivial
  | x :: xs, _, hv => by obtain ⟨v, vs', _, h2, h3⟩ := hv; exact ⟨VRel.lt h x v h2, LRel.lt h xs vs' h3⟩
end
theorem ERel.lt {R : Env} (h : ∀ n, c ≤ n → R.φ n = .unset) : ∀ {xs : List (Int × AV)} {es : List MapEntry}, ERel R xs es → listLt c (xs.map (·.2))
  | [], _, _ => trivial
  | (k, x) :: xs, _, hk => by obtain ⟨v, _, es', _, h2, h3⟩ := hk; exact ⟨VRel.lt h _ _ h2, ERel.lt h h3⟩
theorem ERel.cut (hown : ∀ b, Env.own ⟨w, cutφ c φ, σ'⟩ b → Env.own ⟨w, φ, σ⟩ b) : ∀ {xs : List (Int × AV)} {es : List MapEntry}, listLt c (xs.map (·.2)) → ERel ⟨w, φ, σ⟩ xs es → ERel ⟨w, cutφ c φ, σ'⟩ xs es
  | [], _, _, k => k
  | (k, x) :: xs, _, hl, hk => by obtain ⟨v, c', es', h1, h2, h3⟩ := hk; exact ⟨v, c', es', h1, VRel.cut hown _ _ hl.1 h2, ERel.cut hown hl.2 h3⟩
theorem ORel.ltc {R : Env} (h : ∀ n, c ≤ n → R.φ n = .unset) {n : Nat} : ∀ {o : AO}, ORel R n o → o.lt c
  | .cells T cs, k => by obtain ⟨b, vs, _, _, _, h5⟩ := k; exact CellsAt.lt h _ _ h5
  | .arr T e g rows, k => by
    rcases k with ⟨_, h2⟩ | ⟨b, cc, vs, _, _, _, _, _, h6⟩
    · subst h2; exact show rowsLt c [] from trivial
    · exact RowsAt.lt h _ _ h6
  | .imap es, k => by obtain ⟨b, ents, clock, _, _, _, h4⟩ := k; exact ERel.lt h h4
  | .raw o, _ => trivial
  | .loop ps asg body t nd, k => by obtain ⟨b, rec, _, _, _, _, _, _, _, h8, h9⟩ := k; exact ⟨LRel.lt h _ _ h8, set_lt h (by rw [h9]; simp)⟩
  | .loopD j, _ => trivial
theorem ORel.cut (hown : ∀ b, Env.own ⟨w, cutφ c φ, σ'⟩ b → Env.own ⟨w, φ, σ⟩ b) {n : Nat} (hn : n < c) : ∀ {o : AO}, o.lt c → ORel ⟨w, φ, σ⟩ n o → ORel ⟨w, cutφ c φ, σ'⟩ n o
  | .cells T cs, hl, k => by
    obtain ⟨b, vs, h1, h2, h3, h4⟩ := k
    exact ⟨b, vs, (cutφ_lt φ hn).trans h1, h2, h3, CellsAt.cut hown _ _ hl h4⟩
  | .arr T e g rows, hl, k => by
    rcases k with ⟨h1, h2⟩ | ⟨b, cc, vs, h1, h2, h3, h4, h5, h6⟩
    · exact .inl ⟨(cutφ_lt φ hn).trans h1, h2⟩
    · exact .inr ⟨b, cc, vs, (cutφ_lt φ hn).trans h1, h2, h3, h4, h5, RowsAt.cut hown _ _ hl h6⟩
  | .imap es, hl, k => by
    obtain ⟨b, ents, clock, h1, h2, h3, h4⟩ := k
    exact ⟨b, ents, clock, (cutφ_lt φ hn).trans h1, h2, h3, ERel.cut hown hl h4⟩
  | .raw o, _, k => by obtain ⟨b, h1, h2⟩ := k; exact ⟨b, (cutφ_lt φ hn).trans h1, h2⟩
  | .loop ps asg body t nd, hl, k => by obtain ⟨b, rec, h1, h2, h3, h4, h5, h6, h7, h8, h9⟩ := k; exact ⟨b, rec, (cutφ_lt φ hn).trans h1, h2, h3, h4, h5, h6, h7, LRel.cut hown _ _ hl.1 h8, (cutφ_lt φ hl.2).trans h9⟩
  | .loopD j, _, k => by obtain ⟨b, rec, h1, h2, h3⟩ := k; exact ⟨b, rec, (cutφ_lt φ hn).trans h1, h2, h3⟩

/-- **At a call's end**: of the store there stays what names nothing of the call's own. -/
theorem cut_all {R0 : Env} (h0 : ∀ n, c ≤ n → R0.φ n = .unset) (s0 : SRel R0) (hx : Ext R0 ⟨w, φ, σ⟩) (hs : SRel ⟨w, φ, σ⟩)
    (hσ : ∀ n o, σ' n = some o → n < c ∧ σ n = some o ∧ (R0.σ n = some o ∨ o.lt c)) {x : AV} {v : Value} (hl : x.lt c) (hv : VRel ⟨w, φ, σ⟩ x v) :
    VRel ⟨w, cutφ c φ, σ'⟩ x v ∧ SRel ⟨w, cutφ c φ, σ'⟩ ∧ (∀ n, c ≤ n → cutφ c φ n = .unset) ∧ Ext R0 ⟨w, cutφ c φ, σ'⟩ := by
  have hown : ∀ b, Env.own ⟨w, cutφ c φ, σ'⟩ b → Env.own ⟨w, φ, σ⟩ b := fun b ⟨n, o, h1, h2⟩ => by
    obtain ⟨k1, k2, _⟩ := hσ n o h1
    exact ⟨n, o, k2, by simpa [cutφ_lt φ k1] using h2⟩
  refine ⟨VRel.cut hown x v hl hv, ⟨fun n o hn => ?_, fun n n' o o' b h1 h2 h3 h4 => ?_⟩, fun n hn => by simp [cutφ, Nat.not_lt.2 hn], ?_⟩
  · obtain ⟨k1, k2, k3⟩ := hσ n o hn
    refine ORel.cut hown k1 ?_ (hs.obj n o k2)
    rcases k3 with k3 | k3
    · exact ORel.ltc h0 (s0.obj n o k3)
    · exact k3
  · obtain ⟨k1, k2, _⟩ := hσ n o h1
    obtain ⟨k1', k2', _⟩ := hσ n' o' h2
    simp only [cutφ_lt φ k1, cutφ_lt φ k1'] at h3 h4
    exact hs.inj n n' o o' b k2 k2' h3 h4
  · refine ⟨hx.os, hx.tape, hx.output, hx.size, fun n => ?_, fun b hb ho => ?_⟩
    · by_cases e : n < c
      · simp only [cutφ_lt φ e]; exact hx.ref n
      · rw [h0 n (Nat.not_lt.1 e)]; trivial
    · obtain ⟨k1, k2⟩ := hx.keep b hb ho
      exact ⟨k1, fun h => k2 (hown b h)⟩
end cut

end Go.Ab
