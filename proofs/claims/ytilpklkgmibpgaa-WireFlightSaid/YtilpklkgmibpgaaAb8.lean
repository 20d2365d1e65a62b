/- Ab8: one operation. -/
import Derived.Test.YtilpklkgmibpgaaAbS
import Derived.OrdersIn
namespace Go.Ab
open Go.RowKit
set_option linter.unusedVariables false
set_option linter.unusedSimpArgs false
variable {P : Program} {tt : Nat → Option TI}

def nilOk : AV → Bool
  | .ptr _ _ | .ap _ _ _ _ _ | .pp _ _ _ => true
  | .fn (.func _) _ _ => true
  | _ => false

def convA (tt : Nat → Option TI) (s d : Nat) (x : AV) : Option AV :=
  match tt s, tt d with
  | some ts, some td => match ts.d, td.d, x with
    | .int _, .int k, .int _ n => some (.int k (k.wrap n))
    | .str, .str, .str b => some (.str b)
    | _, _, _ => none
  | _, _ => none
theorem convA_sound (ht : TTok P tt) {R : Env} {s d : Nat} {x r : AV} {v : Value} (h : convA tt s d x = some r) (hx : VRel R x v) : ∃ z, (convert s d v).run P R.w = .ok z R.w ∧ VRel R r z := by
  unfold convA at h
  split at h
  · rename_i ts td hs hd
    split at h
    · rename_i k0 k k1 n h1 h2
      cases h; obtain rfl : v = _ := hx
      exact ⟨_, by simp [convert, run_underlying ((ht.at hs).int h1), run_underlying ((ht.at hd).int h2), Conv.intToInt], rfl⟩
    · rename_i b h1 h2
      cases h; obtain rfl : v = _ := hx
      exact ⟨_, by simp [convert, run_underlying ((ht.at hs).str h1), run_underlying ((ht.at hd).str h2)], rfl⟩
    · cases h
  · cases h

def minA : AV → AV → Option AV
  | .int k x, .int _ y => some (.int k (if y < x then y else x))
  | _, _ => none

/-- A slice of an array that has a name, where it holds something, is not nil. -/
def eqOs (tt : Nat → Option TI) (σ : Nat → Option AO) (op : BinOp) (T : Nat) (x y : AV) : Option AV :=
  match x, y with
  | .os n g (len + 1), .nils => match tt T with
    | some ti => match ti.d, op, σ n with
      | .slice _, .eql, some (.arr _ _ g' _) => if g = g' then some (.bool false) else none
      | .slice _, .neq, some (.arr _ _ g' _) => if g = g' then some (.bool true) else none
      | _, _, _ => none
    | none => none
  | _, _ => none
theorem eqOs_sound (ht : TTok P tt) {R : Env} (hs : SRel R) {op : BinOp} {T : Nat} {x y r : AV} {xo yo : Operand} {v u : Value} (h : eqOs tt R.σ op T x y = some r) (hx : VRel R x v) (hy : VRel R y u) :
    ∃ z, (do eqGuard op T xo yo v u; binOp op T v u : Sem Value).run P R.w = .ok z R.w ∧ VRel R r z := by
  unfold eqOs at h
  split at h
  · rename_i n g len
    obtain rfl : u = _ := hy
    split at h
    · rename_i ti hT
      have key : ∀ {T' e' g' : Nat} {rows : List (List AV)}, R.σ n = some (.arr T' e' g' rows) → g = g' → ∃ b cap, v = .slice (some ⟨b, 0, none⟩) (len + 1) cap := fun hn hg => by
        subst hg
        obtain ⟨a, c, rfl, r, g2, f1, f2, f3⟩ := hx
        have hgg : g = g2 := by
          rcases hs.obj n _ hn with ⟨k, _⟩ | ⟨b, c', cur, k, _⟩ <;> (rw [f1] at k; cases k; rfl)
        rcases f3 hgg with ⟨_, k, _⟩ | ⟨b, _, _, k⟩
        · omega
        · exact ⟨b, c, by rw [k]⟩
      split at h
      · rename_i e T' e' g' rows hd hn
        split at h
        · rename_i hg
          cases h
          obtain ⟨b, cap, rfl⟩ := key hn hg
          have hu := (ht.at hT).slice hd
          have hg : (eqGuard .eql T xo yo (.slice (some ⟨b, 0, none⟩) (len + 1) cap) (.slice none 0 0)).run P R.w = .ok () R.w := eqGuard_plain R.w (by simp) (by simp)
          have he : (Op.equal T (.slice (some ⟨b, 0, none⟩) (len + 1) cap) (.slice none 0 0)).run P R.w = .ok false R.w := by
            have : ∀ m, (Op.equalIn (m + 1) T (.slice (some ⟨b, 0, none⟩) (len + 1) cap) (.slice none 0 0)).run P R.w = .ok false R.w := fun m => by simp [Op.equalIn, run_underlying hu]
            exact this 9999
          exact ⟨.bool false, by simp [hg, binOp_eql (T := T) (v := .slice (some ⟨b, 0, none⟩) (len + 1) cap) (u := .slice none 0 0) rfl, he], rfl⟩
        · cases h
      · rename_i e T' e' g' rows hd hn
        split at h
        · rename_i hg
          cases h
          obtain ⟨b, cap, rfl⟩ := key hn hg
          have hu := (ht.at hT).slice hd
          have hg : (eqGuard .neq T xo yo (.slice (some ⟨b, 0, none⟩) (len + 1) cap) (.slice none 0 0)).run P R.w = .ok () R.w := eqGuard_plain R.w (by simp) (by simp)
          have he : (Op.equal T (.slice (some ⟨b, 0, none⟩) (len + 1) cap) (.slice none 0 0)).run P R.w = .ok false R.w := by
            have : ∀ m, (Op.equalIn (m + 1) T (.slice (some ⟨b, 0, none⟩) (len + 1) cap) (.slice none 0 0)).run P R.w = .ok false R.w := fun m => by simp [Op.equalIn, run_underlying hu]
            exact this 9999
          exact ⟨.bool true, by simp [hg, binOp_neq (T := T) (v := .slice (some ⟨b, 0, none⟩) (len + 1) cap) (u := .slice none 0 0) rfl, he], rfl⟩
        · cases h
      · cases h
    · cases h
  · cases h

/-- What an operation that makes nothing and turns nothing by name comes to. -/
def valA (tt : Nat → Option TI) (ρ : Operand → AV) (σ : Nat → Option AO) : Op → Option AV
  | .move x => some (ρ x)
  | .assign x => some (ρ x)
  | .pick c a b => match ρ c with
    | .bool t => some (if t then ρ a else ρ b)
    | _ => none
  | .build T ps => buildA tt T (ps.toList.map fun p => (p.1, ρ p.2))
  | .buildSlice T len ps => (rowsA tt T len (ps.toList.map fun p => (p.1, ρ p.2))).map fun q => .sl q.2.2
  | .load T a => loadA tt σ T (ρ a)
  | .nilCheck x => if nilOk (ρ x) = true then some (ρ x) else none
  | .binOp op T x y _ => match eqOs tt σ op T (ρ x) (ρ y) with
    | some r => some r
    | none => binA tt op T (ρ x) (ρ y)
  | .unOp op _ x => unA op (ρ x)
  | .convert s d x => convA tt s d (ρ x)
  | .makeFunc fn first captured => some (.fn fn (first.toList.map ρ) (captured.toList.map ρ))
  | .slice T x lo hi mx => match sliceA tt T (ρ x) (lo.map ρ) (hi.map ρ) (mx.map ρ) with
    | some y => some y
    | none => sliceO tt σ T (ρ x) (lo.map ρ) (hi.map ρ) (mx.map ρ)
  | .fieldAddr s x f => fieldA tt s f (ρ x)
  | .field T x f => fieldOfA tt T f (ρ x)
  | .indexAddr T x i => indexA tt σ T (ρ x) (ρ i)
  | .index T x i => atA tt T (ρ x) (ρ i)
  | .lookup T x i ok => lookupA tt σ T (ρ x) (ρ i) ok
  | .extract x i => extractA (ρ x) i
  | .call c => match c.callee with
    | .builtin b => match b, c.argTypes.toList, c.args.toList with
      | .len, [T], [x] => lenA tt σ T (ρ x)
      | .min, _, [x, y] => minA (ρ x) (ρ y)
      | _, _, _ => none
    | _ => none
  | _ => none

theorem LRel.map {R : Env} {α : Type} (f : α → AV) (g : α → Value) : ∀ (l : List α), (∀ a, a ∈ l → VRel R (f a) (g a)) → LRel R (l.map f) (l.map g)
  | [], _ => rfl
  | a :: l, h => ⟨_, _, rfl, h a (by simp), LRel.map f g l fun b hb => h b (by simp [hb])⟩

theorem valA_sound (ht : TTok P tt) {w : World} {φ : Nat → Ref} {σ : Nat → Option AO} (hs : SRel ⟨w, φ, σ⟩) {ρ : Operand → AV} {ρ' : Operand → Value} {o : Oper} (hρ : ∀ x, VRel ⟨w, φ, σ⟩ (ρ x) (ρ' x)) {x : AV}
    (h : valA tt ρ σ o.op = some x) : ∃ v w', (execOp ρ' o).run P w = .ok (.value v) w' ∧ VRel ⟨w', φ, σ⟩ x v ∧ SRel ⟨w', φ, σ⟩ ∧ Ext ⟨w, φ, σ⟩ ⟨w', φ, σ⟩ := by
  obtain ⟨dst, op, type, pos, after, guard⟩ := o
  have stay : ∀ {s : Sem Value} {y : AV}, (∃ v, s.run P w = .ok v w ∧ VRel ⟨w, φ, σ⟩ y v) → ∃ v w', (do pure (Next.value (← s)) : Sem Next).run P w = .ok (.value v) w' ∧ VRel ⟨w', φ, σ⟩ y v ∧ SRel ⟨w', φ, σ⟩ ∧ Ext ⟨w, φ, σ⟩ ⟨w', φ, σ⟩ := by
    rintro s y ⟨v, h1, h2⟩
    exact ⟨v, w, by simp [h1], h2, hs, Ext.refl _⟩
  have opt : ∀ (q : Option Operand), (q.map ρ).isSome = (q.map ρ').isSome ∧ ∀ a b, q.map ρ = some a → q.map ρ' = some b → VRel ⟨w, φ, σ⟩ a b := by
    intro q
    cases q with
    | none => exact ⟨rfl, fun _ _ e => by cases e⟩
    | some q => exact ⟨rfl, fun a b e1 e2 => by cases e1; cases e2; exact hρ q⟩
  have parts : ∀ (ps : Array (Nat × Operand)), (ps.toList.map fun p => (p.1, ρ p.2)).map (·.1) = (ps.map fun (i, x) => (i, ρ' x)).toList.map (·.1) ∧ LRel ⟨w, φ, σ⟩ ((ps.toList.map fun p => (p.1, ρ p.2)).map (·.2)) ((ps.map fun (i, x) => (i, ρ' x)).toList.map (·.2)) := by
    intro ps
    refine ⟨by simp, ?_⟩
    simp only [Array.toList_map, List.map_map]
    exact LRel.map _ _ _ fun a _ => hρ a.2
  cases op <;> simp only [valA] at h <;> simp only [execOp]
  case move y => cases h; exact ⟨_, w, rfl, hρ y, hs, Ext.refl _⟩
  case assign y => cases h; exact ⟨_, w, rfl, hρ y, hs, Ext.refl _⟩
  case pick c a b =>
    split at h
    · rename_i t hc
      cases h
      have := hρ c; rw [hc] at this
      have e : ρ' c = .bool t := this
      refine ⟨if t then ρ' a else ρ' b, w, by simp [e, asBool], ?_, hs, Ext.refl _⟩
      cases t
      · exact hρ b
      · exact hρ a
    · cases h
  case build T ps => exact stay (buildA_sound ht h (parts ps))
  case buildSlice T len ps =>
    cases hr : rowsA tt T len (ps.toList.map fun p => (p.1, ρ p.2)) with
    | none => rw [hr] at h; cases h
    | some q =>
      obtain ⟨e, size, rows⟩ := q
      rw [hr] at h; cases h
      obtain ⟨u, w', h1, h2, h3, h4⟩ := buildSlice_value ht hs hr (parts ps)
      exact ⟨u, w', by simp [h1], h2, h3, h4⟩
  case load T a => exact stay (loadA_sound ht hs h (hρ a))
  case nilCheck y =>
    split at h
    · rename_i hok
      cases h
      have := hρ y
      have keep := hρ y
      cases hy : ρ y <;> rw [hy] at hok this keep <;> simp only [nilOk] at hok <;> try (cases hok; done)
      case ptr n o => obtain ⟨b, _, e⟩ := this; rw [e] at keep ⊢; exact ⟨_, w, rfl, keep, hs, Ext.refl _⟩
      case ap n g e i o => obtain ⟨a, e, _⟩ := this; rw [e] at keep ⊢; exact ⟨_, w, rfl, keep, hs, Ext.refl _⟩
      case pp rows i o => obtain ⟨b, off, e', e, _⟩ := this; rw [e] at keep ⊢; exact ⟨_, w, rfl, keep, hs, Ext.refl _⟩
      case fn f fs cs =>
        obtain ⟨fs', cs', e, _⟩ := this
        cases f <;> simp at hok
        rw [e] at keep ⊢; exact ⟨_, w, rfl, keep, hs, Ext.refl _⟩
    · cases h
  case binOp op T a b ty =>
    split at h
    · rename_i r hr; cases h; exact stay (eqOs_sound ht hs hr (hρ a) (hρ b))
    · exact stay (binA_sound ht h (hρ a) (hρ b))
  case unOp op T a => exact stay (unA_sound h (hρ a))
  case convert s d a => exact stay (convA_sound ht h (hρ a))
  case makeFunc fn first captured =>
    cases h
    exact stay ⟨_, rfl, _, _, rfl, by simpa using LRel.map ρ ρ' first.toList fun a _ => hρ a, by simpa using LRel.map ρ ρ' captured.toList fun a _ => hρ a⟩
  case slice T a lo hi mx =>
    split at h
    · rename_i y hy; cases h; exact stay (sliceA_sound ht hy (hρ a) (opt lo) (opt hi) (opt mx))
    · exact stay (sliceO_sound ht hs h (hρ a) (opt lo) (opt hi) (opt mx))
  case fieldAddr s a f => exact stay (fieldA_sound ht h (hρ a))
  case field T a f => exact stay (fieldOfA_sound ht h (hρ a))
  case indexAddr T a i => exact stay (indexA_sound ht hs h (hρ a) (hρ i))
  case index T a i => exact stay (atA_sound ht h (hρ a) (hρ i))
  case lookup T a i ok => exact stay (lookupA_sound ht hs h (hρ a) (hρ i))
  case extract a i => exact stay (extractA_sound h (hρ a))
  case call c =>
    obtain ⟨callee, args, argTypes⟩ := c
    cases callee <;> simp only at h <;> try (cases h; done)
    rename_i b
    split at h
    · rename_i T y h1 h2
      have e1 : argTypes = #[T] := by rw [← Array.toList_inj]; exact h1
      have e2 : args = #[y] := by rw [← Array.toList_inj]; exact h2
      subst e1 e2
      obtain ⟨v, k1, k2⟩ := lenA_sound (ty := type) ht hs h (hρ y)
      exact ⟨v, w, by simp [resolve, invoke, builtin, k1], k2, hs, Ext.refl _⟩
    · rename_i y z h2
      have e2 : args = #[y, z] := by rw [← Array.toList_inj]; exact h2
      subst e2
      have hy := hρ y
      have hz := hρ z
      unfold minA at h
      split at h
      · rename_i k a k' b h3 h4
        rw [h3] at hy; rw [h4] at hz
        have e3 : ρ' y = _ := hy
        have e4 : ρ' z = _ := hz
        cases h
        exact ⟨.int k (if b < a then b else a), w, by simp [resolve, invoke, builtin, Builtin.min_, Builtin.min2, e3, e4], rfl, hs, Ext.refl _⟩
      · cases h
    · cases h
  all_goals (cases h)

end Go.Ab
