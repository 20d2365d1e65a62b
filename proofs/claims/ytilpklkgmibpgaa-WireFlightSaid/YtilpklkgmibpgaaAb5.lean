/- Ab5: reckoning and tests. -/
import Derived.Test.YtilpklkgmibpgaaAb4
namespace Go.Ab
open Go.RowKit
set_option linter.unusedVariables false
set_option linter.unusedSimpArgs false
variable {P : Program} {tt : Nat → Option TI}

def partA (tt : Nat → Option TI) (T : Nat) (cs : List AV) (o : Nat) : Option AV :=
  match tt T with
  | some i => if i.d.agg then some (.agg ((cs.drop o).take i.size)) else cs[o]?
  | none => none
theorem partA_sound (ht : TTok P tt) {R : Env} {T o : Nat} {cs : List AV} {vs : Array Value} {x : AV} (h : partA tt T cs o = some x) (hc : LRel R cs vs.toList) :
    ∃ v, (∀ w, (part T vs o).run P w = .ok v w) ∧ VRel R x v := by
  unfold partA at h
  split at h
  · rename_i i hi
    have ti := ht.at hi
    split at h
    · rename_i hagg
      cases h
      refine ⟨.agg (vs.extract o (o + i.size)), fun w => by simp [part, ti.isAgg w, hagg, ti.sizeOf w], _, rfl, ?_⟩
      have := LRel.take i.size (LRel.drop o hc)
      have e : (vs.extract o (o + i.size)).toList = (vs.toList.drop o).take i.size := by simp [List.drop_take]
      rw [e]; exact this
    · rename_i hagg
      obtain ⟨v, h1, h2⟩ := hc.get o h
      exact ⟨v, fun w => by
        have : vs[o]? = some v := by simpa using h1
        simp [part, ti.isAgg w, hagg, this], h2⟩
  · cases h

/-! ### equality -/
def nilEq (x y : AV) : Option Bool :=
  match x, y with
  | .nilp, .nilp => some true
  | .ptr _ _, .nilp | .pp _ _ _, .nilp | .nilp, .ptr _ _ | .nilp, .pp _ _ _ => some false
  | _, _ => none
def sliceEq (x y : AV) : Option Bool :=
  match x, y with
  | .nils, .nils => some true
  | .sl (_ :: _), .nils => some false
  | .sle, .nils => some false
  | .os _ _ (_ + 1), .nils => none
  | _, _ => none
def mapEq (x y : AV) : Option Bool :=
  match x, y with
  | .nilm, .nilm => some true
  | .map _, .nilm => some false
  | _, _ => none
def eqFs (tt : Nat → Option TI) (eq : Nat → AV → AV → Option Bool) : List (Nat × Nat) → List AV → List AV → Option Bool
  | [], _, _ => some true
  | (o, t) :: fs, cs, ds =>
    match partA tt t cs o, partA tt t ds o with
    | some a, some b => match eq t a b, eqFs tt eq fs cs ds with
      | some p, some q => some (p && q)
      | _, _ => none
    | _, _ => none
def eqA (tt : Nat → Option TI) : Nat → Nat → AV → AV → Option Bool
  | 0, _, _, _ => none
  | f + 1, T, x, y =>
    match tt T with
    | none => none
    | some i =>
      match i.d with
      | .bool => match x, y with
        | .bool a, .bool b => some (a == b)
        | _, _ => none
      | .int _ => match x, y with
        | .int k a, .int k' b => if k = k' then some (a == b) else none
        | _, _ => none
      | .str => match x, y with
        | .str a, .str b => some (a == b)
        | _, _ => none
      | .ptr => nilEq x y
      | .slice _ => sliceEq x y
      | .map _ _ => mapEq x y
      | .struct fs => match x, y with
        | .agg cs, .agg ds => if i.cmp then eqFs tt (eqA tt f) fs cs ds else none
        | _, _ => none
      | _ => none

theorem toList_mk (a : List UInt8) : (⟨a.toArray⟩ : ByteArray).toList = a := by rw [ByteArray.toList_eq]

theorem TIs.ptr {T : Nat} {i : TI} (h : TIs P T i) (hd : i.d = .ptr) : ∃ e, P.underlying T = some (.pointer e) := by
  obtain ⟨f, z, d, h1, h2, h3, h4, h5, h6, h7, h8⟩ := h.info
  rw [hd] at h7; cases d <;> simp [descOk] at h7; exact ⟨_, h2⟩

theorem eqFs_sound (ht : TTok P tt) {R : Env} {n : Nat} {eq : Nat → AV → AV → Option Bool} (heq : ∀ {T : Nat} {x y : AV} {v u : Value} {b : Bool}, eq T x y = some b → VRel R x v → VRel R y u → (Op.equalIn n T v u).run P R.w = .ok b R.w)
    {vs us : Array Value} {cs ds : List AV} (hc : LRel R cs vs.toList) (hd : LRel R ds us.toList) : ∀ {fs : List Field} {b : Bool}, fs.all (fun f => f.name != "_") = true →
      eqFs tt eq (fs.map fun f => (f.offset, f.type)) cs ds = some b → (Op.eqFields n vs us fs).run P R.w = .ok b R.w
  | [], b, _, h => by cases h; simp [Op.eqFields]
  | f :: fs, b, hn, h => by
    simp only [List.all_cons, Bool.and_eq_true, bne_iff_ne, ne_eq] at hn
    simp only [List.map_cons, eqFs] at h
    split at h
    · rename_i x y hx hy
      split at h
      · rename_i p q hp hq
        cases h
        obtain ⟨v, v1, v2⟩ := partA_sound ht hx hc
        obtain ⟨u, u1, u2⟩ := partA_sound ht hy hd
        have e := heq hp v2 u2
        have ih := eqFs_sound ht heq hc hd hn.2 hq
        cases p <;> simp [Op.eqFields, hn.1, v1, u1, e, ih]
      · cases h
    · cases h

theorem eqA_sound (ht : TTok P tt) {R : Env} : ∀ (f n : Nat), f ≤ n → ∀ {T : Nat} {x y : AV} {v u : Value} {b : Bool}, eqA tt f T x y = some b → VRel R x v → VRel R y u → (Op.equalIn n T v u).run P R.w = .ok b R.w
  | 0, _, _, _, _, _, _, _, _, h, _, _ => by simp [eqA] at h
  | f + 1, 0, hle, _, _, _, _, _, _, _, _, _ => by omega
  | f + 1, n + 1, hle, T, x, y, v, u, b, h, hx, hy => by
    unfold eqA at h
    split at h
    · cases h
    · rename_i i hT
      have ti := ht.at hT
      split at h
      · rename_i hd
        split at h
        · cases h
          obtain rfl : v = _ := hx
          obtain rfl : u = _ := hy
          simp [Op.equalIn, run_underlying (ti.bool hd)]
        · cases h
      · rename_i k0 hd
        split at h
        · split at h
          · rename_i hk
            cases h
            subst hk
            obtain rfl : v = _ := hx
            obtain rfl : u = _ := hy
            simp [Op.equalIn, run_underlying (ti.int hd)]
          · cases h
        · cases h
      · rename_i hd
        split at h
        · rename_i a c
          cases h
          obtain rfl : v = _ := hx
          obtain rfl : u = _ := hy
          have : ((⟨a.toArray⟩ : ByteArray) == ⟨c.toArray⟩) = (a == c) := by rw [beq_toListBytes, toList_mk, toList_mk]
          simp [Op.equalIn, run_underlying (ti.str hd), this]
        · cases h
      · rename_i hd
        obtain ⟨e, hu⟩ := ti.ptr hd
        unfold nilEq at h
        split at h
        · cases h
          obtain rfl : v = _ := hx
          obtain rfl : u = _ := hy
          simp [Op.equalIn, run_underlying hu]
        · cases h
          obtain ⟨_, _, rfl⟩ := hx
          obtain rfl : u = _ := hy
          simp [Op.equalIn, run_underlying hu]
        · cases h
          obtain ⟨_, _, _, rfl, _⟩ := hx
          obtain rfl : u = _ := hy
          simp [Op.equalIn, run_underlying hu]
        · cases h
          obtain rfl : v = _ := hx
          obtain ⟨_, _, rfl⟩ := hy
          simp [Op.equalIn, run_underlying hu]
        · cases h
          obtain rfl : v = _ := hx
          obtain ⟨_, _, _, rfl, _⟩ := hy
          simp [Op.equalIn, run_underlying hu]
        · cases h
      · rename_i e hd
        have hu := ti.slice hd
        unfold sliceEq at h
        split at h
        · cases h
          obtain rfl : v = _ := hx
          obtain rfl : u = _ := hy
          simp [Op.equalIn, run_underlying hu]
        · cases h
          obtain ⟨a, c, rfl, _, hr⟩ := hx
          obtain rfl : u = _ := hy
          rcases hr with ⟨hr, _⟩ | ⟨b, off, e', rfl, _⟩
          · cases hr
          · simp [Op.equalIn, run_underlying hu]
        · cases h
          obtain ⟨a, c, rfl⟩ := hx
          obtain rfl : u = _ := hy
          simp [Op.equalIn, run_underlying hu]
        · cases h
        · cases h
      · rename_i k e hd
        have hu := ti.map hd
        unfold mapEq at h
        split at h
        · cases h
          obtain rfl : v = _ := hx
          obtain rfl : u = _ := hy
          simp [Op.equalIn, run_underlying hu]
        · cases h
          obtain ⟨b, _, rfl⟩ := hx
          obtain rfl : u = _ := hy
          simp [Op.equalIn, run_underlying hu]
        · cases h
      · rename_i fs hd
        split at h
        · rename_i cs ds
          split at h
          · rename_i hc
            obtain ⟨vs, rfl, hvs⟩ := hx
            obtain ⟨us, rfl, hus⟩ := hy
            obtain ⟨c1, c2, a, c3, c4⟩ := ti.cmp hc
            obtain ⟨a', hu, hfs⟩ := ti.struct hd
            rw [c3] at hu; cases hu
            subst hfs
            have hfo : P.fieldsOf T = a := by simp [Program.fieldsOf, c3]
            rw [run_equalIn_struct R.w n T vs us (by rw [hfo]; exact c3) c1, hfo]
            exact eqFs_sound ht (fun h1 h2 h3 => eqA_sound ht f n (by omega) h1 h2 h3) hvs hus c4 h
          · cases h
        · cases h
      · cases h

/-! ### reckoning -/
def bitsI (op : BinOp) (k : IntKind) (x y : Int) : Int :=
  match op with
  | .and => k.wrap (BitVec.ofInt k.bits x &&& BitVec.ofInt k.bits y).toNat
  | .or => k.wrap (BitVec.ofInt k.bits x ||| BitVec.ofInt k.bits y).toNat
  | .xor => k.wrap (BitVec.ofInt k.bits x ^^^ BitVec.ofInt k.bits y).toNat
  | _ => k.wrap (BitVec.ofInt k.bits x &&& ~~~BitVec.ofInt k.bits y).toNat
def intA (op : BinOp) (k : IntKind) (a b : Int) : Option AV :=
  match op with
  | .add => some (.int k (k.wrap (a + b)))
  | .sub => some (.int k (k.wrap (a - b)))
  | .mul => some (.int k (k.wrap (a * b)))
  | .quo => if b = 0 then none else some (.int k (k.wrap (a.tdiv b)))
  | .rem => if b = 0 then none else some (.int k (a.tmod b))
  | .eql => some (.bool (a == b))
  | .neq => some (.bool (a != b))
  | .lss => some (.bool (decide (a < b)))
  | .leq => some (.bool (decide (a ≤ b)))
  | .gtr => some (.bool (decide (a > b)))
  | .geq => some (.bool (decide (a ≥ b)))
  | .shl | .shr => none
  | op => some (.int k (bitsI op k a b))
def strA (op : BinOp) (a b : List UInt8) : Option AV :=
  match op with
  | .add => if a.length + b.length ≤ 9223372036854775807 then some (.str (a ++ b)) else none
  | .eql => some (.bool (a == b))
  | .neq => some (.bool (!(a == b)))
  | .lss => some (.bool (Op.bytesLess a b))
  | .leq => some (.bool (Op.bytesLess a b || a == b))
  | .gtr => some (.bool (!(Op.bytesLess a b || a == b)))
  | .geq => some (.bool (!Op.bytesLess a b))
  | _ => none
def shiftA (op : BinOp) (k : IntKind) (a b : Int) : Option AV :=
  if b < 0 then none else
  match op with
  | .shl => some (.int k (k.wrap (a * 2 ^ (min b.toNat k.bits))))
  | .shr => some (.int k (a.fdiv (2 ^ (min b.toNat k.bits))))
  | _ => none
def binA (tt : Nat → Option TI) (op : BinOp) (T : Nat) (x y : AV) : Option AV :=
  match x, y with
  | .int k a, .int k' b =>
    match op with
    | .shl | .shr => shiftA op k a b
    | op => if k = k' then intA op k a b else none
  | .str a, .str b => strA op a b
  | x, y =>
    match op with
    | .eql => (eqA tt 20 T x y).map .bool
    | .neq => (eqA tt 20 T x y).map fun b => .bool (!b)
    | _ => none

theorem intA_sound {op : BinOp} {k : IntKind} {a b : Int} {r : AV} (h : intA op k a b = some r) (w : World) (T : Nat) : ∃ v, (binOp op T (.int k a) (.int k b)).run P w = .ok v w ∧ ∀ R, VRel R r v := by
  cases op <;> simp only [intA] at h
  case quo => split at h; · cases h
              · rename_i hb; cases h; exact ⟨_, by simp [binOp, Op.intDiv, hb], fun _ => rfl⟩
  case rem => split at h; · cases h
              · rename_i hb; cases h; exact ⟨_, by simp [binOp, Op.intDiv, hb], fun _ => rfl⟩
  case shl => cases h
  case shr => cases h
  all_goals (cases h; exact ⟨_, by simp [binOp, Op.intArith, Op.intCmp, Op.intBits, bitsI]; try rfl, fun _ => rfl⟩)

theorem shiftA_sound {op : BinOp} {k k' : IntKind} {a b : Int} {r : AV} (h : shiftA op k a b = some r) (w : World) (T : Nat) : ∃ v, (binOp op T (.int k a) (.int k' b)).run P w = .ok v w ∧ ∀ R, VRel R r v := by
  unfold shiftA at h
  split at h
  · cases h
  · rename_i hb
    split at h
    · cases h; exact ⟨_, by simp [binOp, Op.shift, hb], fun _ => rfl⟩
    · cases h; exact ⟨_, by simp [binOp, Op.shift, hb], fun _ => rfl⟩
    · cases h

theorem strA_sound {op : BinOp} {a b : List UInt8} {r : AV} (h : strA op a b = some r) (w : World) (T : Nat) : ∃ v, (binOp op T (.string ⟨a.toArray⟩) (.string ⟨b.toArray⟩)).run P w = .ok v w ∧ ∀ R, VRel R r v := by
  cases op <;> simp only [strA] at h
  case add =>
    split at h
    · rename_i hl
      cases h
      have hs : ((⟨a.toArray⟩ : ByteArray).size + (⟨b.toArray⟩ : ByteArray).size) = a.length + b.length := rfl
      have hm : ¬ ((((⟨a.toArray⟩ : ByteArray).size + (⟨b.toArray⟩ : ByteArray).size : Nat) : Int) > IntKind.i64.max) := by
        rw [hs]; simp only [IntKind.max, IntKind.signed, IntKind.bits, if_true]; omega
      refine ⟨.string (⟨a.toArray⟩ ++ ⟨b.toArray⟩), by simp only [binOp, Op.stringOp, if_neg hm, Sem.run_pure], fun R => ?_⟩
      simp only [VRel]
      congr 1
    · cases h
  all_goals first | (cases h; done) | (cases h; exact ⟨_, by simp [binOp, Op.stringOp, toList_mk], fun _ => rfl⟩)

theorem eqGuard_plain {op : BinOp} {T : Nat} {x y : Operand} {a b : Value} (w : World) (h : ∀ cs, a ≠ .agg cs) (h2 : a ≠ .nilIface) : (eqGuard op T x y a b).run P w = .ok () w := by
  unfold eqGuard
  cases a <;> first | exact absurd rfl (h _) | exact absurd rfl h2 | (cases op <;> simp)

/-- Values that are compared, and are no numbers, no texts. -/
def eqShape : Value → Bool
  | .bool _ | .pointer _ | .slice _ _ _ | .map _ | .agg _ => true
  | _ => false
theorem binOp_eql {T : Nat} {v u : Value} (h : eqShape v = true) : binOp .eql T v u = (do pure (.bool (← Op.equal T v u))) := by
  cases v <;> simp [eqShape] at h <;> cases u <;> rfl
theorem binOp_neq {T : Nat} {v u : Value} (h : eqShape v = true) : binOp .neq T v u = (do pure (.bool (!(← Op.equal T v u)))) := by
  cases v <;> simp [eqShape] at h <;> cases u <;> rfl

theorem eqA_shape {R : Env} {f T : Nat} {x y : AV} {b : Bool} {v : Value} (h : eqA tt f T x y = some b) (hx : VRel R x v) (hni : ∀ k a k' b, x = .int k a → y = .int k' b → False) (hns : ∀ a b, x = .str a → y = .str b → False) :
    eqShape v = true ∧ v ≠ .nilIface ∧ ((∃ cs, v = .agg cs) → ∃ i, tt T = some i ∧ i.cmp = true) := by
  cases f with
  | zero => simp [eqA] at h
  | succ f =>
    unfold eqA at h
    split at h
    · cases h
    · rename_i i hT
      split at h
      · split at h
        · obtain rfl : v = _ := hx; simp [eqShape]
        · cases h
      · split at h
        · exact (hni _ _ _ _ rfl rfl).elim
        · cases h
      · split at h
        · exact (hns _ _ rfl rfl).elim
        · cases h
      · unfold nilEq at h
        split at h
        · obtain rfl : v = _ := hx; simp [eqShape]
        · obtain ⟨_, _, rfl⟩ := hx; simp [eqShape]
        · obtain ⟨_, _, _, rfl, _⟩ := hx; simp [eqShape]
        · obtain rfl : v = _ := hx; simp [eqShape]
        · obtain rfl : v = _ := hx; simp [eqShape]
        · cases h
      · unfold sliceEq at h
        split at h
        · obtain rfl : v = _ := hx; simp [eqShape]
        · obtain ⟨_, _, rfl, _⟩ := hx; simp [eqShape]
        · obtain ⟨_, _, rfl⟩ := hx; simp [eqShape]
        · cases h
        · cases h
      · unfold mapEq at h
        split at h
        · obtain rfl : v = _ := hx; simp [eqShape]
        · obtain ⟨_, _, rfl⟩ := hx; simp [eqShape]
        · cases h
      · split at h
        · split at h
          · rename_i hc
            obtain ⟨vs, rfl, _⟩ := hx
            exact ⟨rfl, by simp, fun _ => ⟨i, hT, hc⟩⟩
          · cases h
        · cases h
      · cases h

theorem binA_sound (ht : TTok P tt) {R : Env} {op : BinOp} {T : Nat} {x y r : AV} {xo yo : Operand} {v u : Value} (h : binA tt op T x y = some r) (hx : VRel R x v) (hy : VRel R y u) :
    ∃ z, (do eqGuard op T xo yo v u; binOp op T v u : Sem Value).run P R.w = .ok z R.w ∧ VRel R r z := by
  unfold binA at h
  split at h
  · rename_i k a k' b
    obtain rfl : v = _ := hx
    obtain rfl : u = _ := hy
    have hg : (eqGuard op T xo yo (.int k a) (.int k' b)).run P R.w = .ok () R.w := eqGuard_plain R.w (by simp) (by simp)
    split at h
    · obtain ⟨z, h1, h2⟩ := shiftA_sound (P := P) (k' := k') h R.w T
      exact ⟨z, by simp [hg, h1], h2 R⟩
    · obtain ⟨z, h1, h2⟩ := shiftA_sound (P := P) (k' := k') h R.w T
      exact ⟨z, by simp [hg, h1], h2 R⟩
    · split at h
      · rename_i hk
        subst hk
        obtain ⟨z, h1, h2⟩ := intA_sound (P := P) h R.w T
        exact ⟨z, by simp [hg, h1], h2 R⟩
      · cases h
  · rename_i a b
    obtain rfl : v = _ := hx
    obtain rfl : u = _ := hy
    have hg : (eqGuard op T xo yo (.string ⟨a.toArray⟩) (.string ⟨b.toArray⟩)).run P R.w = .ok () R.w := eqGuard_plain R.w (by simp) (by simp)
    obtain ⟨z, h1, h2⟩ := strA_sound (P := P) h R.w T
    exact ⟨z, by simp [hg, h1], h2 R⟩
  · rename_i hni hns
    have key : ∀ b, eqA tt 20 T x y = some b → (eqGuard op T xo yo v u).run P R.w = .ok () R.w ∧ (Op.equal T v u).run P R.w = .ok b R.w ∧ eqShape v = true := by
      intro b hb
      obtain ⟨q1, q2, q3⟩ := eqA_shape hb hx (fun _ _ _ _ e1 e2 => hni _ _ _ _ e1 e2) (fun _ _ e1 e2 => hns _ _ e1 e2)
      refine ⟨?_, eqA_sound ht 20 Op.maxDepth (by decide) hb hx hy, q1⟩
      by_cases hagg : ∃ cs, v = .agg cs
      · obtain ⟨i, hT, hc⟩ := q3 hagg
        obtain ⟨cs, rfl⟩ := hagg
        obtain ⟨_, c2, _⟩ := (ht.at hT).cmp hc
        unfold eqGuard
        cases op <;> simp
        all_goals (cases u <;> simp [c2])
      · exact eqGuard_plain R.w (fun cs e => hagg ⟨cs, e⟩) q2
    split at h
    · cases hb : eqA tt 20 T x y with
      | none => rw [hb] at h; cases h
      | some b =>
        rw [hb] at h; cases h
        obtain ⟨k1, k2, k3⟩ := key b hb
        exact ⟨.bool b, by simp [k1, binOp_eql k3, k2], rfl⟩
    · cases hb : eqA tt 20 T x y with
      | none => rw [hb] at h; cases h
      | some b =>
        rw [hb] at h; cases h
        obtain ⟨k1, k2, k3⟩ := key b hb
        exact ⟨.bool (!b), by simp [k1, binOp_neq k3, k2], rfl⟩
    · cases h

/-! ### the rest that is reckoned -/
def unA (op : UnOp) (x : AV) : Option AV :=
  match op, x with
  | .not, .bool b => some (.bool (!b))
  | .neg, .int k n => some (.int k (k.wrap (0 - n)))
  | _, _ => none
theorem unA_sound {R : Env} {op : UnOp} {x r : AV} {v : Value} (h : unA op x = some r) (hx : VRel R x v) : ∃ z, (Op.unary op v).run P R.w = .ok z R.w ∧ VRel R r z := by
  unfold unA at h
  split at h
  · cases h; obtain rfl : v = _ := hx; exact ⟨_, by simp [Op.unary], rfl⟩
  · cases h; obtain rfl : v = _ := hx; exact ⟨_, by simp [Op.unary, Op.intArith], rfl⟩
  · cases h

def extractA (x : AV) (i : Nat) : Option AV :=
  match x with
  | .tup vs => vs[i]?
  | _ => none
theorem extractA_sound {R : Env} {x r : AV} {i : Nat} {v : Value} (h : extractA x i = some r) (hx : VRel R x v) : ∃ z, (Instr.extract v i).run P R.w = .ok z R.w ∧ VRel R r z := by
  unfold extractA at h
  split at h
  · obtain ⟨vs, rfl, h1⟩ := hx
    obtain ⟨z, k1, k2⟩ := h1.get i h
    have : vs[i]? = some z := by simpa using k1
    exact ⟨z, by simp [Instr.extract, this], k2⟩
  · cases h

/-- A byte of a text; a component of an array that is a value. -/
def atA (tt : Nat → Option TI) (T : Nat) (x i : AV) : Option AV :=
  match tt T, i with
  | some ti, .int _ k => match ti.d, x with
    | .str, .str s => (nth k s.length).bind fun j => (s[j]?).map fun b => .int .u8 b.toNat
    | .arr n e, .agg cs => match tt e with
      | some te => (nth k n).bind fun j => partA tt e cs (j * te.size)
      | none => none
    | _, _ => none
  | _, _ => none
theorem atA_sound (ht : TTok P tt) {R : Env} {T : Nat} {x i r : AV} {v vi : Value} (h : atA tt T x i = some r) (hx : VRel R x v) (hi : VRel R i vi) : ∃ z, (Instr.index T v vi).run P R.w = .ok z R.w ∧ VRel R r z := by
  unfold atA at h
  split at h
  · rename_i ti k0 k hT
    obtain rfl : vi = _ := hi
    split at h
    · rename_i s hd
      obtain rfl : v = _ := hx
      unfold nth at h
      split at h
      · rename_i hk
        simp only [Option.bind_some] at h
        cases hs : s[k.toNat]? with
        | none => rw [hs] at h; cases h
        | some b =>
          rw [hs] at h; cases h
          have hb : (⟨s.toArray⟩ : ByteArray)[k.toNat]? = some b := by
            obtain ⟨h1, h2⟩ := List.getElem?_eq_some_iff.1 hs
            have : k.toNat < (⟨s.toArray⟩ : ByteArray).size := h1
            rw [getElem?_pos (⟨s.toArray⟩ : ByteArray) k.toNat this]
            exact congrArg some h2
          exact ⟨.int .u8 b.toNat, by simp [Instr.index, asIntOf, run_underlying ((ht.at hT).str hd), hk, hb], rfl⟩
      · cases h
    · rename_i n e cs hd
      obtain ⟨vs, rfl, hvs⟩ := hx
      split at h
      · rename_i te hte
        unfold nth at h
        split at h
        · rename_i hk
          simp only [Option.bind_some] at h
          obtain ⟨z, k1, k2⟩ := partA_sound ht h hvs
          exact ⟨z, by simp [Instr.index, asIntOf, run_underlying ((ht.at hT).arr hd), hk, (ht.at hte).sizeOf R.w, k1], k2⟩
        · cases h
      · cases h
    · cases h
  · cases h

def fieldOfA (tt : Nat → Option TI) (T f : Nat) (x : AV) : Option AV :=
  match tt T, x with
  | some ti, .agg cs => match ti.d with
    | .struct fs => (fs[f]?).bind fun (o, t) => partA tt t cs o
    | _ => none
  | _, _ => none
theorem fieldOfA_sound (ht : TTok P tt) {R : Env} {T f : Nat} {x r : AV} {v : Value} (h : fieldOfA tt T f x = some r) (hx : VRel R x v) : ∃ z, (Instr.field T v f).run P R.w = .ok z R.w ∧ VRel R r z := by
  unfold fieldOfA at h
  split at h
  · rename_i ti cs hT
    obtain ⟨vs, rfl, hvs⟩ := hx
    split at h
    · rename_i fs hd
      obtain ⟨a, hu, hfs⟩ := (ht.at hT).struct hd
      subst hfs
      rw [List.getElem?_map] at h
      cases hfa : a.toList[f]? with
      | none => rw [hfa] at h; cases h
      | some fd =>
        rw [hfa] at h
        simp only [Option.map_some, Option.bind_some] at h
        obtain ⟨z, k1, k2⟩ := partA_sound ht h hvs
        have hfa' : a[f]? = some fd := by simpa using hfa
        exact ⟨z, by simp [Instr.field, run_underlying hu, hfa', asAgg, k1], k2⟩
    · cases h
  · cases h

def lenA (tt : Nat → Option TI) (σ : Nat → Option AO) (T : Nat) (x : AV) : Option AV :=
  match tt T with
  | some ti => match ti.d, x with
    | .str, .str s => some (.int .i64 s.length)
    | .slice _, .sl rows => some (.int .i64 rows.length)
    | .slice _, .os _ _ len => some (.int .i64 len)
    | .slice _, .ow _ _ _ _ len => some (.int .i64 len)
    | .slice _, .nils => some (.int .i64 0)
    | .slice _, .sle => some (.int .i64 0)
    | .map _ _, .nilm => some (.int .i64 0)
    | .map _ _, .map n => match σ n with
      | some (.imap es) => some (.int .i64 es.length)
      | _ => none
    | .arr n _, _ => some (.int .i64 n)
    | _, _ => none
  | none => none
theorem ERel.length {R : Env} : ∀ {xs : List (Int × AV)} {es : List MapEntry}, ERel R xs es → es.length = xs.length
  | [], _, h => by obtain rfl : _ = [] := h; rfl
  | (k, x) :: xs, _, h => by obtain ⟨v, c, es', rfl, _, h3⟩ := h; simp [ERel.length h3]
theorem lenA_sound (ht : TTok P tt) {R : Env} (hs : SRel R) {T : Nat} {x r : AV} {v : Value} {ty : Nat} (h : lenA tt R.σ T x = some r) (hx : VRel R x v) : ∃ z, (Builtin.len_ #[T] ty #[v]).run P R.w = .ok z R.w ∧ VRel R r z := by
  unfold lenA at h
  split at h
  · rename_i ti hT
    have ti' := ht.at hT
    split at h
    · rename_i s hd
      cases h; obtain rfl : v = _ := hx
      exact ⟨.int .i64 s.length, by simp [Builtin.len_, run_underlying (ti'.str hd), goInt]; rfl, rfl⟩
    · rename_i e rows hd
      cases h; obtain ⟨a, c, rfl, _⟩ := hx
      exact ⟨_, by simp [Builtin.len_, run_underlying (ti'.slice hd), goInt], rfl⟩
    · rename_i e n g len hd
      cases h; obtain ⟨a, c, rfl, _⟩ := hx
      exact ⟨_, by simp [Builtin.len_, run_underlying (ti'.slice hd), goInt], rfl⟩
    · rename_i hd
      cases h; obtain ⟨a, c, rfl, _⟩ := hx
      exact ⟨_, by simp [Builtin.len_, run_underlying (ti'.slice hd), goInt], rfl⟩
    · rename_i e hd
      cases h; obtain rfl : v = _ := hx
      exact ⟨_, by simp [Builtin.len_, run_underlying (ti'.slice hd), goInt], rfl⟩
    · rename_i e hd
      cases h; obtain ⟨a, c, rfl⟩ := hx
      exact ⟨_, by simp [Builtin.len_, run_underlying (ti'.slice hd), goInt], rfl⟩
    · rename_i k e hd
      cases h; obtain rfl : v = _ := hx
      exact ⟨_, by simp [Builtin.len_, run_underlying (ti'.map hd), goInt], rfl⟩
    · rename_i k e n hd
      split at h
      · rename_i es hn
        cases h
        obtain ⟨b, hb, rfl⟩ := hx
        obtain ⟨b', ents, clock, q1, q2, q3, q4⟩ := hs.obj n _ hn
        rw [hb] at q1; cases q1
        refine ⟨.int .i64 ents.size, by simp [Builtin.len_, run_underlying (ti'.map hd), goInt, getObj, Sem.run, q2], ?_⟩
        have := q4.length
        simp only [VRel]
        rw [← this]; simp
      · cases h
    · rename_i n e hd
      cases h
      exact ⟨_, by simp [Builtin.len_, run_underlying (ti'.arr hd), goInt], rfl⟩
    · cases h
  · cases h

end Go.Ab
