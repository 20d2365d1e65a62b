/- Ab2: the types that a program's operations speak of, as a table; what operations on memory do to a state. -/
import Derived.Test.YtilpklkgmibpgaaAb1
import Derived.Laws.AppendOwn
import Derived.Laws.CopyRow
import Derived.Laws.Cells
import Derived.KernelRfl
namespace Go.Ab
open Go.RowKit
set_option linter.unusedVariables false
set_option linter.unusedSimpArgs false

inductive AD where
  | bool | int (k : IntKind) | str | ptr | slice (e : Nat) | map (k e : Nat) | func | struct (fs : List (Nat × Nat)) | arr (n e : Nat) | other
  deriving Inhabited

def AD.agg : AD → Bool
  | .struct _ | .arr _ _ => true
  | _ => false

structure TI where
  d : AD
  size : Nat
  bytes : Nat
  zero : List AV
  cmp : Bool := false

def zeroOne : AV → Value → Bool
  | .bool b, .bool b' => b == b'
  | .int k n, .int k' n' => k == k' && n == n'
  | .str [], .string s => s.size == 0
  | .nilp, .pointer a => a.isNone
  | .nils, .slice a n c => a.isNone && n == 0 && c == 0
  | .nilm, .map a => a.isNone
  | .nilf, .nilFunc => true
  | _, _ => false
def zeroAll : List AV → List Value → Bool
  | [], [] => true
  | x :: xs, v :: vs => zeroOne x v && zeroAll xs vs
  | _, _ => false

def descOk : AD → TypeDesc → Bool
  | .bool, .bool => true
  | .int k, .int k' => k == k'
  | .str, .string => true
  | .ptr, .pointer _ => true
  | .slice e, .slice e' => e == e'
  | .map k e, .map k' e' => k == k' && e == e'
  | .func, .func _ _ _ => true
  | .struct fs, .struct a => a.toList.map (fun f => (f.offset, f.type)) == fs
  | .arr n e, .array n' e' => n == n' && e == e'
  | _, _ => false

def TI.ok (P : Program) (T : Nat) (i : TI) : Bool :=
  match P.info? T, P.underlying T with
  | some f, some d => f.size == i.size && f.bytes == i.bytes && (match f.zero with | some z => zeroAll i.zero z.cells.toList && (match z with | .agg _ => true | _ => false) == i.d.agg | none => false) && descOk i.d d && i.zero.length == i.size
      && (!i.cmp || (!P.stoodInHeld T && !P.eqGuardType P.depth T && (match d with | .struct a => a.toList.all (fun f => f.name != "_") | _ => false)))
  | _, _ => false

/-- The table is the program's. -/
def TTok (P : Program) (tt : Nat → Option TI) : Prop := ∀ T i, tt T = some i → i.ok P T = true

variable {P : Program} {tt : Nat → Option TI}

theorem zeroOne_rel (R : Env) {x : AV} {v : Value} (h : zeroOne x v = true) : VRel R x v := by
  unfold zeroOne at h
  split at h
  · simp at h; subst h; rfl
  · simp at h; obtain ⟨rfl, rfl⟩ := h; rfl
  · rename_i s
    simp at h
    subst h; rfl
  · simp at h; subst h; rfl
  · simp at h; obtain ⟨⟨rfl, rfl⟩, rfl⟩ := h; rfl
  · simp at h; subst h; rfl
  · rfl
  · cases h
theorem zeroAll_rel (R : Env) : ∀ {xs : List AV} {vs : List Value}, zeroAll xs vs = true → LRel R xs vs
  | [], [], _ => rfl
  | x :: xs, v :: vs, h => by
    simp only [zeroAll, Bool.and_eq_true] at h
    exact ⟨v, vs, rfl, zeroOne_rel R h.1, zeroAll_rel R h.2⟩
  | [], _ :: _, h => by simp [zeroAll] at h
  | _ :: _, [], h => by simp [zeroAll] at h

structure TIs (P : Program) (T : Nat) (i : TI) : Prop where
  info : ∃ f z d, P.info? T = some f ∧ P.underlying T = some d ∧ f.size = i.size ∧ f.bytes = i.bytes ∧ f.zero = some z ∧ (∀ R, LRel R i.zero z.cells.toList) ∧ descOk i.d d = true ∧ (match z with | .agg _ => true | _ => false) = i.d.agg
  len : i.zero.length = i.size
  cmp : i.cmp = true → P.stoodInHeld T = false ∧ P.eqGuardType P.depth T = false ∧ ∃ a, P.underlying T = some (.struct a) ∧ a.toList.all (fun f => f.name != "_") = true

theorem TTok.at (h : TTok P tt) {T : Nat} {i : TI} (e : tt T = some i) : TIs P T i := by
  have := h T i e
  unfold TI.ok at this
  split at this
  · rename_i f d h1 h2
    simp only [Bool.and_eq_true, beq_iff_eq] at this
    obtain ⟨⟨⟨⟨⟨k1, k2⟩, k3⟩, k4⟩, k6⟩, k5⟩ := this
    refine ⟨?_, k6, fun hc => ?_⟩
    · cases hz : f.zero with
      | none => simp [hz] at k3
      | some z => simp only [hz, Bool.and_eq_true, beq_iff_eq] at k3; exact ⟨f, z, d, h1, h2, k1, k2, hz, fun R => zeroAll_rel R k3.1, k4, k3.2⟩
    · simp only [hc, Bool.not_true, Bool.false_or, Bool.and_eq_true, Bool.not_eq_true'] at k5
      obtain ⟨⟨q1, q2⟩, q3⟩ := k5
      cases d <;> simp at q3
      exact ⟨q1, q2, _, h2, by simpa using q3⟩
  · cases this

theorem TIs.sizeOf {T : Nat} {i : TI} (h : TIs P T i) (w : World) : (sizeOf T).run P w = .ok i.size w := by
  obtain ⟨f, z, d, h1, h2, h3, _⟩ := h.info
  simp [Go.sizeOf, typeInfo, h1, h3]
theorem TIs.typeInfo {T : Nat} {i : TI} (h : TIs P T i) (w : World) : ∃ f, (typeInfo T).run P w = .ok f w ∧ f.size = i.size ∧ f.bytes = i.bytes := by
  obtain ⟨f, z, d, h1, h2, h3, h4, _⟩ := h.info
  exact ⟨f, by simp [Go.typeInfo, h1], h3, h4⟩
theorem TIs.zeroValue {T : Nat} {i : TI} (h : TIs P T i) (w : World) : ∃ z, (zeroValue T).run P w = .ok z w ∧ ∀ R, LRel R i.zero z.cells.toList := by
  obtain ⟨f, z, d, h1, h2, h3, h4, h5, h6, _⟩ := h.info
  exact ⟨z, by simp [Go.zeroValue, Go.typeInfo, h1, h5], h6⟩
/-- The value that a variable of a type has at first. -/
def TI.zv (i : TI) : AV := if i.d.agg then .agg i.zero else i.zero.headD .junk
theorem TIs.zv {T : Nat} {i : TI} (h : TIs P T i) (w : World) : ∃ z, (Go.zeroValue T).run P w = .ok z w ∧ ∀ R, VRel R i.zv z := by
  obtain ⟨f, z, d, h1, h2, h3, h4, h5, h6, h7, h8⟩ := h.info
  refine ⟨z, by simp [Go.zeroValue, Go.typeInfo, h1, h5], fun R => ?_⟩
  have hz := h6 R
  unfold TI.zv
  split
  · rename_i ha
    rw [ha] at h8
    cases z <;> simp at h8
    exact ⟨_, rfl, hz⟩
  · rename_i ha
    have ha : i.d.agg = false := by simpa using ha
    rw [ha] at h8
    have hc : z.cells = #[z] := by cases z <;> first | rfl | simp at h8
    rw [hc] at hz
    cases hi : i.zero with
    | nil => trivial
    | cons x xs =>
      rw [hi] at hz
      obtain ⟨v, vs', e, h9, _⟩ := hz
      simp only [List.cons.injEq] at e
      obtain ⟨rfl, _⟩ := e
      exact h9
theorem TIs.isAgg {T : Nat} {i : TI} (h : TIs P T i) (w : World) : (isAgg T).run P w = .ok i.d.agg w := by
  obtain ⟨f, z, d, h1, h2, h3, h4, h5, h6, h7, h8⟩ := h.info
  cases hd : i.d <;> cases d <;> simp [hd, descOk] at h7 <;> simp [Go.isAgg, run_underlying h2, AD.agg]
theorem TIs.slice {T e : Nat} {i : TI} (h : TIs P T i) (hd : i.d = .slice e) : P.underlying T = some (.slice e) := by
  obtain ⟨f, z, d, h1, h2, h3, h4, h5, h6, h7, h8⟩ := h.info
  rw [hd] at h7; cases d <;> simp [descOk] at h7; subst h7; exact h2
theorem TIs.str {T : Nat} {i : TI} (h : TIs P T i) (hd : i.d = .str) : P.underlying T = some .string := by
  obtain ⟨f, z, d, h1, h2, h3, h4, h5, h6, h7, h8⟩ := h.info
  rw [hd] at h7; cases d <;> simp [descOk] at h7; exact h2
theorem TIs.map {T k e : Nat} {i : TI} (h : TIs P T i) (hd : i.d = .map k e) : P.underlying T = some (.map k e) := by
  obtain ⟨f, z, d, h1, h2, h3, h4, h5, h6, h7, h8⟩ := h.info
  rw [hd] at h7; cases d <;> simp [descOk] at h7; obtain ⟨rfl, rfl⟩ := h7; exact h2
theorem TIs.int {T : Nat} {k : IntKind} {i : TI} (h : TIs P T i) (hd : i.d = .int k) : P.underlying T = some (.int k) := by
  obtain ⟨f, z, d, h1, h2, h3, h4, h5, h6, h7, h8⟩ := h.info
  rw [hd] at h7; cases d <;> simp [descOk] at h7; subst h7; exact h2
theorem TIs.bool {T : Nat} {i : TI} (h : TIs P T i) (hd : i.d = .bool) : P.underlying T = some .bool := by
  obtain ⟨f, z, d, h1, h2, h3, h4, h5, h6, h7, h8⟩ := h.info
  rw [hd] at h7; cases d <;> simp [descOk] at h7; exact h2
theorem TIs.struct {T : Nat} {fs : List (Nat × Nat)} {i : TI} (h : TIs P T i) (hd : i.d = .struct fs) : ∃ a, P.underlying T = some (.struct a) ∧ a.toList.map (fun f => (f.offset, f.type)) = fs := by
  obtain ⟨f, z, d, h1, h2, h3, h4, h5, h6, h7, h8⟩ := h.info
  rw [hd] at h7; cases d <;> simp [descOk] at h7; exact ⟨_, h2, by simpa using h7⟩
theorem TIs.arr {T n e : Nat} {i : TI} (h : TIs P T i) (hd : i.d = .arr n e) : P.underlying T = some (.array n e) := by
  obtain ⟨f, z, d, h1, h2, h3, h4, h5, h6, h7, h8⟩ := h.info
  rw [hd] at h7; cases d <;> simp [descOk] at h7; obtain ⟨rfl, rfl⟩ := h7; exact h2

/-! ### Cells of values -/
def AV.one : AV → Bool
  | .junk | .agg _ | .tup _ => false
  | _ => true
def AV.cells : AV → List AV
  | .agg cs => cs
  | x => [x]
theorem one_rel {R : Env} {x : AV} {v : Value} (h : VRel R x v) (h1 : x.one = true) : v.oneCell' = true ∧ v.cells = #[v] := by
  cases x <;> simp only [AV.one, Bool.false_eq_true] at h1 <;> simp only [VRel] at h
  case bool => subst h; exact ⟨rfl, rfl⟩
  case int => subst h; exact ⟨rfl, rfl⟩
  case str => subst h; exact ⟨rfl, rfl⟩
  case nilp => subst h; exact ⟨rfl, rfl⟩
  case ptr => obtain ⟨b, _, rfl⟩ := h; exact ⟨rfl, rfl⟩
  case ap => obtain ⟨a, rfl, _⟩ := h; exact ⟨rfl, rfl⟩
  case pp => obtain ⟨b, off, e, rfl, _⟩ := h; exact ⟨rfl, rfl⟩
  case nils => subst h; exact ⟨rfl, rfl⟩
  case sle => obtain ⟨a, c, rfl⟩ := h; exact ⟨rfl, rfl⟩
  case sl => obtain ⟨a, c, rfl, _⟩ := h; exact ⟨rfl, rfl⟩
  case os => obtain ⟨a, c, rfl, _⟩ := h; exact ⟨rfl, rfl⟩
  case ow => obtain ⟨a, c, rfl, _⟩ := h; exact ⟨rfl, rfl⟩
  case nilm => subst h; exact ⟨rfl, rfl⟩
  case map => obtain ⟨b, _, rfl⟩ := h; exact ⟨rfl, rfl⟩
  case fn => obtain ⟨fs', cs', rfl, _⟩ := h; exact ⟨rfl, rfl⟩
  case yld => obtain ⟨b, _, rfl⟩ := h; exact ⟨rfl, rfl⟩
  case nilf => subst h; exact ⟨rfl, rfl⟩

/-- A value that may be laid in memory: its cells are one cell each. -/
def AV.ok (x : AV) : Bool := x.cells.all AV.one
theorem LRel.one {R : Env} : ∀ {xs : List AV} {vs : List Value}, LRel R xs vs → xs.all AV.one = true → ∀ v, v ∈ vs → v.oneCell' = true
  | [], _, h, _, v, hv => by obtain rfl : _ = [] := h; cases hv
  | x :: xs, _, h, h1, v, hv => by
    obtain ⟨u, vs', rfl, h2, h3⟩ := h
    simp only [List.all_cons, Bool.and_eq_true] at h1
    cases hv with
    | head => exact (one_rel h2 h1.1).1
    | tail _ hv => exact LRel.one h3 h1.2 v hv
theorem cells_rel {R : Env} {x : AV} {v : Value} (h : VRel R x v) (hok : x.ok = true) : LRel R x.cells v.cells.toList ∧ ∀ u, u ∈ v.cells.toList → u.oneCell' = true := by
  have key : LRel R x.cells v.cells.toList := by
    by_cases h1 : x.one = true
    · have e : x.cells = [x] := by cases x <;> simp_all [AV.one, AV.cells]
      rw [e, (one_rel h h1).2]
      exact ⟨v, [], rfl, h, rfl⟩
    · cases x <;> simp [AV.one] at h1
      case junk => simp [AV.ok, AV.cells, AV.one] at hok
      case tup => simp [AV.ok, AV.cells, AV.one] at hok
      case agg cs => obtain ⟨vs, rfl, h2⟩ := h; exact h2
  exact ⟨key, LRel.one key hok⟩

/-- The values that stand in a run of cells. -/
theorem CellsAt.vals {R : Env} {b : Nat} : ∀ {xs : List AV} {off : Nat}, CellsAt R b off xs → ∃ vs, LRel R xs vs ∧ ∀ j v, vs[j]? = some v → R.w.cell? ⟨b, off + j, none⟩ = some v
  | [], off, _ => ⟨[], rfl, fun j v e => by simp at e⟩
  | x :: xs, off, h => by
    obtain ⟨⟨v, h1, h2⟩, h3⟩ := h
    obtain ⟨vs, k1, k2⟩ := CellsAt.vals h3
    refine ⟨v :: vs, ⟨v, vs, rfl, h2, k1⟩, fun j u e => ?_⟩
    cases j with
    | zero => simp at e; subst e; simpa using h1
    | succ j => have := k2 j u (by simpa using e); rwa [show off + (j + 1) = off + 1 + j by omega]
theorem CellsAt.of_vals {R : Env} {b : Nat} : ∀ {xs : List AV} {off : Nat} {vs : List Value}, LRel R xs vs → (∀ j v, vs[j]? = some v → R.w.cell? ⟨b, off + j, none⟩ = some v) → CellsAt R b off xs
  | [], _, _, _, _ => trivial
  | x :: xs, off, _, h, k => by
    obtain ⟨v, vs', rfl, h1, h2⟩ := h
    refine ⟨⟨v, by simpa using k 0 v (by simp), h1⟩, CellsAt.of_vals h2 fun j u e => ?_⟩
    have := k (j + 1) u (by simpa using e)
    rwa [show off + (j + 1) = off + 1 + j by omega] at this

/-! ### Reading -/
def readA (tt : Nat → Option TI) (T : Nat) (cs : List AV) : Option AV :=
  match tt T with
  | some i => if i.d.agg then (if i.size ≤ cs.length then some (.agg (cs.take i.size)) else none) else cs.head?
  | none => none

def loadA (tt : Nat → Option TI) (σ : Nat → Option AO) (T : Nat) : AV → Option AV
  | .ptr n o => match σ n with
    | some (.cells _ cs) => readA tt T (cs.drop o)
    | _ => none
  | .ap n g e i o => match σ n with
    | some (.arr _ e' g' rows) => if e = e' ∧ g = g' then (rows[i]?).bind fun r => readA tt T (r.drop o) else none
    | _ => none
  | .pp rows i o => (rows[i]?).bind fun r => readA tt T (r.drop o)
  | _ => none

theorem readA_sound (ht : TTok P tt) {R : Env} {T b off : Nat} {cs : List AV} {x : AV} (h : readA tt T cs = some x) (hc : CellsAt R b off cs) :
    ∃ v, (loadVar T ⟨b, off, none⟩).run P R.w = .ok v R.w ∧ VRel R x v := by
  unfold readA at h
  split at h
  · rename_i i hi
    have ti := ht.at hi
    obtain ⟨vs, k1, k2⟩ := hc.vals
    split at h
    · rename_i hagg
      split at h
      · rename_i hle
        cases h
        have hl := k1.length
        have hr := run_loadCells_list (P := P) R.w ⟨b, off, none⟩ (vs.take i.size) (fun j v e => by
          rw [Addr.add_lit]
          rw [List.getElem?_take] at e
          split at e
          · exact k2 j v e
          · cases e)
        have hlen : (vs.take i.size).length = i.size := by rw [List.length_take, hl]; omega
        rw [hlen] at hr
        refine ⟨.agg (vs.take i.size).toArray, ?_, _, rfl, ?_⟩
        · simp [loadVar, ti.isAgg R.w, ti.sizeOf R.w, hagg, hr]
        · simpa using LRel.take i.size k1
      · cases h
    · rename_i hagg
      cases cs with
      | nil => cases h
      | cons y cs =>
        simp at h; subst h
        obtain ⟨⟨v, h1, h2⟩, _⟩ := hc
        refine ⟨v, ?_, h2⟩
        simp [loadVar, ti.isAgg R.w, hagg, h1]
  · cases h

theorem loadA_sound (ht : TTok P tt) {R : Env} (hs : SRel R) {T : Nat} {p x : AV} {v : Value} (h : loadA tt R.σ T p = some x) (hp : VRel R p v) :
    ∃ u, (Instr.loadAt T v).run P R.w = .ok u R.w ∧ VRel R x u := by
  unfold loadA at h
  split at h
  · rename_i n o
    obtain ⟨b, h1, rfl⟩ := hp
    split at h
    · rename_i T' cs hn
      obtain ⟨b', vs, k1, k2, k3, k4⟩ := hs.obj n _ hn
      rw [h1] at k1; cases k1
      have := CellsAt.drop o k4
      simp only [Nat.zero_add] at this
      obtain ⟨u, e1, e2⟩ := readA_sound ht h this
      exact ⟨u, by simp [Instr.loadAt, Instr.sureAddr, e1], e2⟩
    · cases h
  · rename_i n g e i o
    obtain ⟨a, rfl, r, g', h1, h2, h3⟩ := hp
    split at h
    · rename_i T' e' g2 rows hn
      split at h
      · rename_i hee
        obtain ⟨rfl, rfl⟩ := hee
        rcases hs.obj n _ hn with ⟨k1, k2⟩ | ⟨b, c, vs, k1, k2, k3, k4, k5, k6⟩
        · subst k2; simp at h
        · rw [h1] at k1; cases k1
          obtain ⟨b', c', e1, rfl⟩ := h3 rfl
          cases e1
          cases hr : rows[i]? with
          | none => simp [hr] at h
          | some row =>
            simp only [hr, Option.bind_some] at h
            obtain ⟨q1, q2⟩ := RowsAt.get i k6 hr
            have := CellsAt.drop o q2
            simp only [Nat.zero_add] at this
            obtain ⟨u, e1, e2⟩ := readA_sound ht h this
            exact ⟨u, by simp [Instr.loadAt, Instr.sureAddr, e1], e2⟩
      · cases h
    · cases h
  · rename_i rows i o
    obtain ⟨b, off, e, rfl, h1, h2, h3⟩ := hp
    cases hr : rows[i]? with
    | none => simp [hr] at h
    | some row =>
      simp only [hr, Option.bind_some] at h
      obtain ⟨q1, q2⟩ := RowsAt.get i h3 hr
      have := CellsAt.drop o q2
      obtain ⟨u, e1, e2⟩ := readA_sound ht h this
      exact ⟨u, by simp [Instr.loadAt, Instr.sureAddr, e1], e2⟩
  · cases h

/-! ### Writing -/
def splice {α : Type} (l : List α) (o : Nat) (new : List α) : List α := l.take o ++ new ++ l.drop (o + new.length)
theorem splice_length {α : Type} (l : List α) (o : Nat) (new : List α) (h : o + new.length ≤ l.length) : (splice l o new).length = l.length := by
  simp [splice]; omega
theorem splice_get {α : Type} (l : List α) (o : Nat) (new : List α) (h : o + new.length ≤ l.length) (i : Nat) :
    (splice l o new)[i]? = if i < o then l[i]? else if i < o + new.length then new[i - o]? else l[i]? := by
  unfold splice
  split
  · rename_i h1
    rw [List.append_assoc, List.getElem?_append_left (by simp; omega), List.getElem?_take, if_pos h1]
  · rename_i h1
    rw [List.append_assoc, List.getElem?_append_right (by simp; omega)]
    have e : (l.take o).length = o := by simp; omega
    rw [e]
    split
    · rename_i h2
      rw [List.getElem?_append_left (by omega)]
    · rename_i h2
      rw [List.getElem?_append_right (by omega), List.getElem?_drop]
      congr 1
      omega

def storeA (tt : Nat → Option TI) (σ : Nat → Option AO) (T : Nat) (p x : AV) : Option (Nat → Option AO) :=
  match tt T with
  | some i =>
    if x.ok = true ∧ x.cells.length = i.size then
      match p with
      | .ptr n o => match σ n with
        | some (.cells T' cs) => if o + i.size ≤ cs.length then some (upd σ n (some (.cells T' (splice cs o x.cells)))) else none
        | _ => none
      | .ap n g e j o => match σ n with
        | some (.arr T' e' g' rows) => match rows[j]? with
          | some r => if e = e' ∧ g = g' ∧ o + i.size ≤ e then some (upd σ n (some (.arr T' e' g' (rows.set j (splice r o x.cells))))) else none
          | none => none
        | _ => none
      | _ => none
    else none
  | none => none

theorem setRow_cell {w : World} {b : Nat} {cur : Array Value} {T : TypeId} (h : w.heap[b]? = some (.cells cur T (0, 0))) (l : List Value) (j : Nat) : (w.setRow b l.toArray).cell? ⟨b, j, none⟩ = l[j]? := by
  have := cell_of_row (w.setRow b l.toArray) b j l.toArray T (0, 0) (setRow_heap w b cur _ T _ h)
  rw [this]; simp

/-- Behind a store in a block: what is told of a run of its cells that holds what was stored. -/
theorem CellsAt.stored {R R' : Env} (hx : Ext R R') {b off o : Nat} {T : TypeId} {cur : Array Value} {cs new : List AV} {vs : List Value} (hb : R.w.heap[b]? = some (.cells cur T (0, 0)))
    (hc : CellsAt R b off cs) (hv : LRel R new vs) (hle : o + new.length ≤ cs.length) (hfit : off + o + vs.length ≤ cur.size) (hw : R'.w = R.w.setRow b (splice cur.toList (off + o) vs).toArray) :
    CellsAt R' b off (splice cs o new) := by
  have hl := hv.length
  refine CellsAt.of_get fun i x hi => ?_
  rw [splice_get _ _ _ hle] at hi
  rw [hw, setRow_cell hb, splice_get _ _ _ (by simpa using hfit)]
  have old : cs[i]? = some x → ∃ v, cur.toList[off + i]? = some v ∧ VRel R' x v := fun e => by
    obtain ⟨v, k1, k2⟩ := CellsAt.get i hc e
    refine ⟨v, ?_, VRel.mono hx _ _ k2⟩
    rw [cell_of_row _ _ _ _ _ _ hb] at k1
    simpa using k1
  split at hi
  · rename_i h1
    rw [if_pos (by omega)]; exact old hi
  · rename_i h1
    rw [if_neg (by omega)]
    split at hi
    · rename_i h2
      rw [if_pos (by omega)]
      obtain ⟨v, k1, k2⟩ := hv.get _ hi
      refine ⟨v, ?_, VRel.mono hx _ _ k2⟩
      rw [show off + i - (off + o) = i - o by omega]; exact k1
    · rename_i h2
      rw [if_neg (by omega)]; exact old hi

/-- .. and of a run beside it. -/
theorem CellsAt.beside {R R' : Env} (hx : Ext R R') {b off o : Nat} {T : TypeId} {cur : Array Value} {cs : List AV} {vs : List Value} (hb : R.w.heap[b]? = some (.cells cur T (0, 0)))
    (hc : CellsAt R b off cs) (hd : off + cs.length ≤ o ∨ o + vs.length ≤ off) (hfit : o + vs.length ≤ cur.size) (hw : R'.w = R.w.setRow b (splice cur.toList o vs).toArray) : CellsAt R' b off cs := by
  refine CellsAt.of_get fun i x hi => ?_
  have hlt : i < cs.length := (List.getElem?_eq_some_iff.1 hi).1
  obtain ⟨v, k1, k2⟩ := CellsAt.get i hc hi
  refine ⟨v, ?_, VRel.mono hx _ _ k2⟩
  rw [hw, setRow_cell hb, splice_get _ _ _ (by simpa using hfit)]
  rw [cell_of_row _ _ _ _ _ _ hb] at k1
  have k1 : cur.toList[off + i]? = some v := by simpa using k1
  split
  · exact k1
  · rw [if_neg (by omega)]; exact k1

theorem storeA_sound (ht : TTok P tt) {w : World} {φ : Nat → Ref} {σ σ' : Nat → Option AO} (hs : SRel ⟨w, φ, σ⟩) {T : Nat} {p x : AV} {u v : Value} (h : storeA tt σ T p x = some σ')
    (hp : VRel ⟨w, φ, σ⟩ p u) (hx : VRel ⟨w, φ, σ⟩ x v) : ∃ w', (Instr.storeAt T u v).run P w = .ok () w' ∧ SRel ⟨w', φ, σ'⟩ ∧ Ext ⟨w, φ, σ⟩ ⟨w', φ, σ'⟩ := by
  unfold storeA at h
  split at h
  · rename_i i hi
    have ti := ht.at hi
    split at h
    · rename_i hok
      obtain ⟨hok, hlen⟩ := hok
      obtain ⟨k1, k2⟩ := cells_rel hx hok
      have hsz : v.cells.size = i.size := by have := k1.length; rw [hlen] at this; simpa using this
      split at h
      · rename_i n o
        obtain ⟨b, hb, rfl⟩ := hp
        replace hb : φ n = .blk b := hb
        split at h
        · rename_i T' cs hn
          split at h
          · rename_i hle
            cases h
            obtain ⟨b', cur, e1, e2, e3, e4⟩ := hs.obj n _ hn
            replace e1 : φ n = .blk b' := e1
            replace e2 : w.heap[b']? = some (.cells cur T' (0, 0)) := e2
            rw [hb] at e1; cases e1
            have hfit : o + 0 + v.cells.toList.length ≤ cur.size := by simp only [Array.length_toList, hsz, e3]; omega
            have hr := run_storeCells_at P b o T' v.cells.toList 0 cur w e2 hfit k2
            simp only [Nat.add_zero] at hr hfit
            replace hr : (storeCells ⟨b, o, none⟩ v.cells.toList).run P w = .ok () (w.setRow b (splice cur.toList o v.cells.toList).toArray) := hr
            refine ⟨w.setRow b (splice cur.toList o v.cells.toList).toArray, by simp [Instr.storeAt, Instr.sureAddr, storeVar, ti.sizeOf w, hsz, hr], ?_⟩
            have hφ : upd φ n (.blk b) = φ := upd_self φ n hb
            have hold : oldAt φ σ n = some b := by simp [oldAt, hn, hb, Ref.at]
            have hx' := Ext.turn (w := w) (w' := w.setRow b (splice cur.toList o v.cells.toList).toArray) (φ := φ) (σ := σ) (n := n) (ρ := .blk b) (.cells T' (splice cs o x.cells)) (by simp) rfl rfl rfl (by rw [hb]; rfl)
              (fun k _ hne => setRow_other w b k _ (fun e => hne (by rw [e, hold]))) (fun b' e => .inl (by cases e; exact hold))
            have hs' := SRel.turn (w' := w.setRow b (splice cur.toList o v.cells.toList).toArray) hs (n := n) (ρ := .blk b) (y := .cells T' (splice cs o x.cells)) (by simp) rfl rfl rfl (by rw [hb]; rfl)
              (fun k _ hne => setRow_other w b k _ (fun e => hne (by rw [e, hold]))) (fun b' e => .inl (by cases e; exact hold))
              ⟨b, _, upd_same _ _ _, setRow_heap w b cur _ T' _ e2, by rw [splice_length _ _ _ (by omega)]; simp [splice_length cur.toList o v.cells.toList (by simpa using hfit), e3],
                CellsAt.stored hx' e2 e4 k1 (by omega) (by simpa using hfit) (by simp)⟩
            rw [hφ] at hs' hx'
            exact ⟨hs', hx'⟩
          · cases h
        · cases h
      · rename_i n g e j o
        obtain ⟨a, rfl, r, g', h1, h2, h3⟩ := hp
        replace h1 : φ n = .arr r g' := h1
        split at h
        · rename_i T' e' g2 rows hn
          split at h
          · rename_i row hrow
            split at h
            · rename_i hle
              obtain ⟨rfl, rfl, hle⟩ := hle
              cases h
              rcases hs.obj n _ hn with ⟨k3, k4⟩ | ⟨b, c, cur, q1, q2, q3, q4, q5, q6⟩
              · subst k4; simp at hrow
              · replace q1 : φ n = .arr (some (b, c)) g := q1
                replace q2 : w.heap[b]? = some (.cells cur T' (0, 0)) := q2
                rw [h1] at q1; cases q1
                obtain ⟨b', c', e1, rfl⟩ := h3 rfl
                cases e1
                have hjlt : j < rows.length := (List.getElem?_eq_some_iff.1 hrow).1
                have hbound : j * e + e ≤ cur.size := by
                  rw [q4, ← Nat.succ_mul]; exact Nat.mul_le_mul_right _ (by omega)
                have hfit : j * e + o + 0 + v.cells.toList.length ≤ cur.size := by simp only [Array.length_toList, hsz]; omega
                have hr := run_storeCells_at P b (j * e + o) T' v.cells.toList 0 cur w q2 hfit k2
                simp only [Nat.add_zero] at hr hfit
                replace hr : (storeCells ⟨b, j * e + o, none⟩ v.cells.toList).run P w = .ok () (w.setRow b (splice cur.toList (j * e + o) v.cells.toList).toArray) := hr
                refine ⟨w.setRow b (splice cur.toList (j * e + o) v.cells.toList).toArray, by simp [Instr.storeAt, Instr.sureAddr, storeVar, ti.sizeOf w, hsz, hr], ?_⟩
                have hφ : upd φ n (.arr (some (b, c)) g) = φ := upd_self φ n h1
                have hold : oldAt φ σ n = some b := by simp [oldAt, hn, h1, Ref.at]
                have hx' := Ext.turn (w := w) (w' := w.setRow b (splice cur.toList (j * e + o) v.cells.toList).toArray) (φ := φ) (σ := σ) (n := n) (ρ := .arr (some (b, c)) g) (.arr T' e g (rows.set j (splice row o x.cells))) (by simp) rfl rfl rfl (by rw [h1]; exact Ref.le_refl _)
                  (fun k _ hne => setRow_other w b k _ (fun e => hne (by rw [e, hold]))) (fun b' e => .inl (by cases e; exact hold))
                have hs' := SRel.turn (w' := w.setRow b (splice cur.toList (j * e + o) v.cells.toList).toArray) hs (n := n) (ρ := .arr (some (b, c)) g) (y := .arr T' e g (rows.set j (splice row o x.cells))) (by simp) rfl rfl rfl (by rw [h1]; exact Ref.le_refl _)
                  (fun k _ hne => setRow_other w b k _ (fun e => hne (by rw [e, hold]))) (fun b' e => .inl (by cases e; exact hold))
                  (.inr ⟨b, c, _, upd_same _ _ _, setRow_heap w b cur _ T' _ q2, q3, by simp [splice_length cur.toList (j * e + o) v.cells.toList (by simpa using hfit), q4], by simpa using q5, by
                    obtain ⟨r1, r2⟩ := RowsAt.get j q6 hrow
                    refine RowsAt.of_get fun i2 r' hi2 => ?_
                    rw [List.getElem?_set] at hi2
                    split at hi2
                    · rename_i hji
                      subst hji
                      simp only [hjlt, if_true, Option.some.injEq] at hi2
                      subst hi2
                      exact ⟨by rw [splice_length _ _ _ (by omega)]; exact r1, CellsAt.stored hx' q2 r2 k1 (by omega) (by simpa using hfit) (by simp)⟩
                    · rename_i hji
                      obtain ⟨s1, s2⟩ := RowsAt.get i2 q6 hi2
                      refine ⟨s1, CellsAt.beside hx' (o := j * e + o) q2 s2 ?_ (by simpa using hfit) rfl⟩
                      simp only [Nat.zero_add, s1, Array.length_toList, hsz]
                      rcases Nat.lt_or_gt_of_ne hji with hlt | hlt
                      · right
                        have : (j + 1) * e ≤ i2 * e := Nat.mul_le_mul_right _ hlt
                        rw [Nat.succ_mul] at this; omega
                      · left
                        have : (i2 + 1) * e ≤ j * e := Nat.mul_le_mul_right _ hlt
                        rw [Nat.succ_mul] at this; omega⟩)
                rw [hφ] at hs' hx'
                exact ⟨hs', hx'⟩
            · cases h
          · cases h
        · cases h
      · cases h
    · cases h
  · cases h

end Go.Ab
