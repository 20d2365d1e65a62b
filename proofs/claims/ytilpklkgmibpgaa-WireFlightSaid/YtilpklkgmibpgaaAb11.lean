/- Ab11: a region that draws its order may be walked in one order, where neighbours may be exchanged. -/
import Derived.Test.YtilpklkgmibpgaaAb10
namespace Go.Ab
open Go.RowKit
set_option linter.unusedVariables false
set_option linter.unusedSimpArgs false
variable {P : Program} {tt : Nat → Option TI} {r : Option Nat}

def pureOp : Op → Bool
  | .move _ | .assign _ | .pick _ _ _ | .build _ _ | .nilCheck _ | .unOp _ _ _ | .convert _ _ _ | .makeFunc _ _ _ | .fieldAddr _ _ _ | .field _ _ _ | .index _ _ _ | .extract _ _ => true
  | .call c => match c.callee with
    | .builtin .min => true
    | _ => false
  | _ => false
def readOp : Op → Bool
  | .load _ _ | .lookup _ _ _ _ | .indexAddr _ _ _ | .slice _ _ _ _ _ | .binOp _ _ _ _ _ => true
  | .call c => match c.callee with
    | .builtin .len => true
    | _ => false
  | _ => false
def newOp : Op → Bool
  | .alloc _ | .box _ _ | .makeMap _ _ | .buildSlice _ _ _ => true
  | _ => false
def valOp (o : Op) : Bool := pureOp o || readOp o

theorem valOp_only {op : Op} (h : valOp op = true) (ρ : Operand → AV) (σ : Nat → Option AO) (nm : Nat) : mutA tt ρ σ op = none ∧ newA tt ρ σ nm op = none ∧ callA ρ op = none := by
  cases op <;> simp only [valOp, pureOp, readOp, Bool.or_self, Bool.false_or, Bool.or_false, reduceCtorEq] at h <;> (try exact ⟨rfl, rfl, rfl⟩)
  rename_i c
  obtain ⟨callee, args, argTypes⟩ := c
  cases callee <;> simp only [Bool.or_self, reduceCtorEq] at h
  rename_i b
  cases b <;> simp at h <;> exact ⟨by simp [mutA], by simp [newA], rfl⟩

theorem pureOp_σ {op : Op} (h : pureOp op = true) (ρ : Operand → AV) (σ σ' : Nat → Option AO) : valA tt ρ σ op = valA tt ρ σ' op := by
  cases op <;> simp only [pureOp, reduceCtorEq] at h <;> (try rfl)
  rename_i c
  obtain ⟨callee, args, argTypes⟩ := c
  cases callee <;> simp only [reduceCtorEq] at h
  rename_i b
  cases b <;> simp at h
  simp only [valA]
  split <;> first | rfl | contradiction

def Grows (σ σ' : Nat → Option AO) : Prop := ∀ n q, σ n = some q → σ' n = some q
variable {ρ : Operand → AV} {σ σ' : Nat → Option AO}

theorem loadA_grow (hg : Grows σ σ') {T : Nat} {p x : AV} (h : loadA tt σ T p = some x) : loadA tt σ' T p = some x := by
  cases p <;> simp only [loadA] at h ⊢ <;> (try exact h)
  case ptr n o =>
    cases hs : σ n with
    | none => rw [hs] at h; cases h
    | some q => rw [hs] at h; rw [hg _ _ hs]; exact h
  case ap n g e i o =>
    cases hs : σ n with
    | none => rw [hs] at h; cases h
    | some q => rw [hs] at h; rw [hg _ _ hs]; exact h
theorem indexA_grow (hg : Grows σ σ') {T : Nat} {a i x : AV} (h : indexA tt σ T a i = some x) : indexA tt σ' T a i = some x := by
  cases hT : tt T with
  | none => simp [indexA, hT] at h
  | some ti =>
    cases i <;> simp only [indexA, hT] at h ⊢ <;> (try exact h)
    cases hd : ti.d <;> simp only [hd] at h ⊢ <;> (try exact h)
    rename_i e
    cases he : tt e with
    | none => simp only [he] at h; cases h
    | some te =>
      cases a <;> simp only [he] at h ⊢ <;> (try exact h)
      rename_i n g len
      cases hs : σ n with
      | none => rw [hs] at h; cases h
      | some q => rw [hs] at h; rw [hg _ _ hs]; exact h
theorem lookupA_grow (hg : Grows σ σ') {T : Nat} {a i x : AV} {ok : Bool} (h : lookupA tt σ T a i ok = some x) : lookupA tt σ' T a i ok = some x := by
  cases hT : mapElem tt T with
  | none => simp [lookupA, hT] at h
  | some q =>
    obtain ⟨K, te⟩ := q
    cases i <;> simp only [lookupA, hT] at h ⊢ <;> (try exact h)
    rename_i k n
    cases k <;> simp only at h ⊢ <;> (try exact h)
    cases a <;> simp only at h ⊢ <;> (try exact h)
    rename_i n
    cases hs : σ n with
    | none => rw [hs] at h; cases h
    | some q => rw [hs] at h; rw [hg _ _ hs]; exact h
theorem lenA_grow (hg : Grows σ σ') {T : Nat} {a x : AV} (h : lenA tt σ T a = some x) : lenA tt σ' T a = some x := by
  cases hT : tt T with
  | none => simp [lenA, hT] at h
  | some ti =>
    simp only [lenA, hT] at h ⊢
    cases hd : ti.d <;> cases a <;> simp only [hd] at h ⊢ <;> (try exact h)
    rename_i n
    cases hs : σ n with
    | none => rw [hs] at h; cases h
    | some q => rw [hs] at h; rw [hg _ _ hs]; exact h

theorem sliceO_grow (hg : Grows σ σ') {T : Nat} {a x : AV} {lo hi mx : Option AV} (h : sliceO tt σ T a lo hi mx = some x) : sliceO tt σ' T a lo hi mx = some x := by
  unfold sliceO at h ⊢
  split at h
  · rename_i ti hT
    split at h
    · rename_i e n g len hd
      split at h
      · rename_i te l hh m hte hl hhe hme
        split at h
        · rename_i T2 e2 g2 rows2 hn
          rw [hg _ _ hn]
          exact h
        · cases h
      · cases h
    · cases h
  · cases h

theorem eqOs_grow (hg : Grows σ σ') {op : BinOp} {T : Nat} {a b x : AV} (h : eqOs tt σ op T a b = some x) : eqOs tt σ' op T a b = some x := by
  unfold eqOs at h ⊢
  split at h
  · rename_i n g len
    split at h
    · rename_i ti hT
      split at h
      · rename_i e T' e' g' rows hd hn
        rw [hg _ _ hn]; simpa [hd] using h
      · rename_i e T' e' g' rows hd hn
        rw [hg _ _ hn]; simpa [hd] using h
      · cases h
    · cases h
  · cases h
theorem eqOs_none {op : BinOp} {T : Nat} {a b x : AV} (h : binA tt op T a b = some x) : eqOs tt σ' op T a b = none := by
  unfold eqOs
  split
  · rename_i n g len
    exfalso
    cases op <;> simp [binA, eqA, sliceEq] at h
    all_goals (cases hT : tt T with
      | none => simp [hT] at h
      | some ti => cases hd : ti.d <;> simp [hT, hd, nilEq, mapEq] at h)
  · rfl

theorem valA_grow {op : Op} (ho : valOp op = true) (hg : Grows σ σ') {x : AV} (h : valA tt ρ σ op = some x) : valA tt ρ σ' op = some x := by
  cases hp : pureOp op with
  | true => rw [← pureOp_σ hp ρ σ σ']; exact h
  | false =>
    simp only [valOp, hp, Bool.false_or] at ho
    cases op <;> simp only [readOp, reduceCtorEq] at ho
    case load T a => exact loadA_grow hg h
    case indexAddr T a i => exact indexA_grow hg h
    case lookup T a i ok => exact lookupA_grow hg h
    case binOp op T a b ty =>
      simp only [valA] at h ⊢
      split at h
      · rename_i r hr; rw [eqOs_grow hg hr]; exact h
      · rename_i hr
        cases hr' : eqOs tt σ' op T (ρ a) (ρ b) with
        | none => exact h
        | some r' => rw [eqOs_none h] at hr'; cases hr'
    case slice T a lo hi mx =>
      simp only [valA] at h ⊢
      split at h
      · exact h
      · exact sliceO_grow hg h
    case call c =>
      obtain ⟨callee, args, argTypes⟩ := c
      cases callee <;> simp only [reduceCtorEq] at ho
      rename_i b
      cases b <;> simp at ho
      cases args with | mk args =>
      cases argTypes with | mk argTypes =>
      match argTypes, args, h with
      | [T], [y], h => exact lenA_grow hg h

/-! ### What an operation looks at -/
theorem parts_congr {ρ' : Operand → AV} (ps : List (Nat × Operand)) (h : ∀ x ∈ ps.map (·.2), ρ x = ρ' x) : (ps.map fun p => (p.1, ρ p.2)) = (ps.map fun p => (p.1, ρ' p.2)) :=
  List.map_congr_left fun p hp => by rw [h p.2 (List.mem_map_of_mem hp)]
theorem opt_congr {ρ' : Operand → AV} (q : Option Operand) (h : ∀ x ∈ q.toArray, ρ x = ρ' x) : q.map ρ = q.map ρ' := by
  cases q with
  | none => rfl
  | some x => simp [h x (by simp)]
theorem valA_congr {ρ' : Operand → AV} {op : Op} (h : ∀ x ∈ op.operands, ρ x = ρ' x) : valA tt ρ σ op = valA tt ρ' σ op := by
  cases op <;> simp only [Op.operands] at h <;> simp only [valA] <;> (try (simp_all; done))
  case build T ps => rw [parts_congr ps.toList (by simpa using h)]
  case buildSlice T n ps => rw [parts_congr ps.toList (by simpa using h)]
  case slice T x lo hi mx =>
    rw [opt_congr lo fun y hy => h y (by simp at hy; simp [hy]), opt_congr hi fun y hy => h y (by simp at hy; simp [hy]), opt_congr mx fun y hy => h y (by simp at hy; simp [hy]), h x (by simp)]
  case call c =>
    obtain ⟨callee, args, argTypes⟩ := c
    cases callee <;> simp only [Call.operands] at h ⊢
    rename_i b
    cases args with | mk args =>
    cases argTypes with | mk argTypes =>
    cases b <;> simp only <;> (try rfl)
    case len =>
      match argTypes, args, h with
      | [T], [y], h => simp [h y (by simp)]
      | [], _, _ => rfl
      | _ :: _ :: _, _, _ => rfl
      | [_], [], _ => rfl
      | [_], _ :: _ :: _, _ => rfl
    case min =>
      match args, h with
      | [x, y], h => simp [h y (by simp), h x (by simp)]
      | [], _ => rfl
      | [_], _ => rfl
      | _ :: _ :: _ :: _, _ => rfl

theorem mutA_congr {ρ' : Operand → AV} {op : Op} (h : ∀ x ∈ op.operands, ρ x = ρ' x) : mutA tt ρ σ op = mutA tt ρ' σ op := by
  cases op <;> simp only [Op.operands] at h <;> simp only [mutA] <;> (try (simp_all; done))
  case call c =>
    obtain ⟨callee, args, argTypes⟩ := c
    cases callee <;> simp only [Call.operands] at h ⊢
    rename_i b
    cases args with | mk args =>
    cases argTypes with | mk argTypes =>
    cases b <;> simp only <;> (try rfl)
    case append =>
      match argTypes, args, h with
      | [T, T'], [x, y], h => simp [h y (by simp), h x (by simp)]
      | [], _, _ => rfl
      | [_], _, _ => rfl
      | _ :: _ :: _ :: _, _, _ => rfl
      | [_, _], [], _ => rfl
      | [_, _], [_], _ => rfl
      | [_, _], _ :: _ :: _ :: _, _ => rfl
    case clear =>
      match argTypes, args, h with
      | [T], [y], h => simp [h y (by simp)]
      | [], _, _ => rfl
      | _ :: _ :: _, _, _ => rfl
      | [_], [], _ => rfl
      | [_], _ :: _ :: _, _ => rfl
    case delete =>
      match argTypes, args, h with
      | [T, T'], [x, y], h => simp [h y (by simp), h x (by simp)]
      | [], _, _ => rfl
      | [_], _, _ => rfl
      | _ :: _ :: _ :: _, _, _ => rfl
      | [_, _], [], _ => rfl
      | [_, _], [_], _ => rfl
      | [_, _], _ :: _ :: _ :: _, _ => rfl
theorem newA_congr {ρ' : Operand → AV} {nm : Nat} {op : Op} (h : ∀ x ∈ op.operands, ρ x = ρ' x) : newA tt ρ σ nm op = newA tt ρ' σ nm op := by
  cases op <;> simp only [Op.operands] at h <;> simp only [newA] <;> (try (simp_all; done))
  case buildSlice T n ps => rw [parts_congr ps.toList (by simpa using h)]
  case call c =>
    obtain ⟨callee, args, argTypes⟩ := c
    cases callee <;> simp only [Call.operands] at h ⊢
    rename_i b
    cases args with | mk args =>
    cases argTypes with | mk argTypes =>
    cases b <;> simp only <;> (try rfl)
    case append =>
      match argTypes, args, h with
      | [T, T'], [x, y], h => simp [h y (by simp), h x (by simp)]
      | [], _, _ => rfl
      | [_], _, _ => rfl
      | _ :: _ :: _ :: _, _, _ => rfl
      | [_, _], [], _ => rfl
      | [_, _], [_], _ => rfl
      | [_, _], _ :: _ :: _ :: _, _ => rfl
theorem callA_congr {ρ' : Operand → AV} {op : Op} (h : ∀ x ∈ op.operands, ρ x = ρ' x) : callA ρ op = callA ρ' op := by
  cases op <;> simp only [Op.operands] at h <;> simp only [callA]
  rename_i c
  obtain ⟨callee, args, argTypes⟩ := c
  cases callee <;> simp only [Call.operands] at h ⊢
  rename_i f
  rw [h f (by simp)]
  split
  · rw [List.map_congr_left (l := args.toList) (g := ρ') fun x hx => h x (by simp at hx; simp [hx])]
  · rw [List.map_congr_left (l := args.toList) (g := ρ') fun x hx => h x (by simp at hx; simp [hx])]
  · rfl

/-! ### Exchanging neighbours -/
theorem ev_put {st : AS} {d : Option Tmp} {y : AV} {x : Operand} (h : ∀ k, d = some k → x ≠ .tmp k) : (st.put d y).ev x = st.ev x := by
  cases d with
  | none => rfl
  | some k =>
    cases x with
    | tmp i => simp only [AS.ev, AS.put]; rw [upd_ne]; exact fun e => h k rfl (by rw [e])
    | const v => rfl
    | global g => rfl
    | func f => rfl
theorem put_σ {st : AS} {d : Option Tmp} {y : AV} : (st.put d y).σ = st.σ := by cases d <;> rfl
theorem put_fr {st : AS} {d : Option Tmp} {y : AV} : (st.put d y).fr = st.fr := by cases d <;> rfl
theorem put_c {st : AS} {d : Option Tmp} {y : AV} : (st.put d y).c = st.c := by cases d <;> rfl
theorem put_t {st : AS} {d : Option Tmp} {y : AV} {n : Nat} (h : d ≠ some n) : (st.put d y).t n = st.t n := by
  cases d with
  | none => rfl
  | some k => exact upd_ne _ _ fun e => h (by rw [e])
theorem put_put {st : AS} {d e : Option Tmp} {x y : AV} (h : ∀ k, d = some k → e ≠ some k) : (st.put d x).put e y = (st.put e y).put d x := by
  cases d with
  | none => rfl
  | some k => cases e with
    | none => rfl
    | some l =>
      have : k ≠ l := fun q => h k rfl (by rw [q])
      simp only [AS.put, AS.mk.injEq, and_true]
      exact upd_comm _ _ _ this
theorem put_with {st : AS} {d : Option Tmp} {x : AV} {σ' : Nat → Option AO} {fr' : List Nat} : ({ st.put d x with σ := σ', fr := fr' } : AS) = ({ st with σ := σ', fr := fr' } : AS).put d x := by cases d <;> rfl
theorem put_withσ {st : AS} {d : Option Tmp} {x : AV} {σ' : Nat → Option AO} : ({ st.put d x with σ := σ' } : AS) = ({ st with σ := σ' } : AS).put d x := by cases d <;> rfl

/-- What an operation leaves as it was. -/
structure Fr (st : AS) (o : Oper) (s : AS) : Prop where
  t : ∀ n, o.dst ≠ some n → s.t n = st.t n
  val : valOp o.op = true → s.σ = st.σ
  new : newOp o.op = true → Good st → Grows st.σ s.σ

theorem newA_grows {nm : Nat} {op : Op} {x : AV} (ho : newOp op = true) (h : newA tt ρ σ nm op = some (x, σ')) (hn : σ nm = none) : Grows σ σ' := by
  have key : ∀ o, Grows σ (upd σ nm o) := fun o n q hq => by
    by_cases e : n = nm
    · subst e; rw [hn] at hq; cases hq
    · rw [upd_ne _ _ e]; exact hq
  cases op <;> simp only [newOp, reduceCtorEq] at ho <;> simp only [newA] at h
  case alloc T => unfold allocA at h; split at h <;> cases h; exact key _
  case box T y => unfold boxA at h; split at h <;> cases h; exact key _
  case makeMap T q => split at h <;> cases h; exact key _
  case buildSlice T n ps =>
    cases hr : rowsA tt T n (ps.toList.map fun p => (p.1, ρ p.2)) with
    | none => rw [hr] at h; cases h
    | some q => rw [hr] at h; cases h; exact key _
theorem newOp_only {op : Op} (h : newOp op = true) (ρ : Operand → AV) (σ : Nat → Option AO) : mutA tt ρ σ op = none ∧ callA ρ op = none := by
  cases op <;> simp only [newOp, reduceCtorEq] at h <;> exact ⟨rfl, rfl⟩

theorem StepA.frame {st : AS} {o : Oper} {K : AS → Prop} (h : StepA P tt st o K) : StepA P tt st o (fun s => K s ∧ Fr st o s) := by
  rcases h with ⟨x, h1, h2⟩ | ⟨x, σ', h1, h2⟩ | ⟨nm, x, σ', h1, h2, h3⟩ | ⟨k, args, Ns, Q, h1, h2, h3, h4, h5⟩
  · exact .inl ⟨x, h1, h2, ⟨fun n hn => put_t hn, fun _ => put_σ, fun _ _ n q hq => (by rw [put_σ]; exact hq)⟩⟩
  · exact .inr (.inl ⟨x, σ', h1, h2, ⟨fun n hn => put_t (st := { st with σ := σ' }) hn, fun ho => (by rw [(valOp_only ho st.ev st.σ 0).1] at h1; cases h1), fun ho => (by rw [(newOp_only ho st.ev st.σ).1] at h1; cases h1)⟩⟩)
  · exact .inr (.inr (.inl ⟨nm, x, σ', h1, h2, h3, ⟨fun n hn => put_t (st := { st with σ := σ', fr := st.fr.filter fun n => n != nm }) hn, fun ho => (by rw [(valOp_only ho st.ev st.σ nm).2.1] at h1; cases h1),
      fun ho hg => by rw [put_σ]; exact newA_grows ho h1 (hg.1 nm h2)⟩⟩))
  · exact .inr (.inr (.inr ⟨k, args, Ns, Q, h1, h2, h3, h4, fun x σ' hq => ⟨h5 x σ' hq, ⟨fun n hn => put_t (st := { st with σ := σ', fr := st.fr.filter fun n => !Ns.contains n }) hn,
      fun ho => (by rw [(valOp_only (tt := tt) ho st.ev st.σ 0).2.2] at h1; cases h1), fun ho => (by rw [(newOp_only (tt := tt) ho st.ev st.σ).2] at h1; cases h1)⟩⟩⟩))

theorem StepA.put {st : AS} {o : Oper} {K : AS → Prop} {d : Option Tmp} {y : AV} (hl : ∀ k, d = some k → .tmp k ∉ o.op.operands) (hd : ∀ k, d = some k → o.dst ≠ some k) (h : StepA P tt (st.put d y) o K) :
    StepA P tt st o (fun s => K (s.put d y)) := by
  have hev : ∀ x ∈ o.op.operands, (st.put d y).ev x = st.ev x := fun x hx => ev_put fun k hk e => hl k hk (e ▸ hx)
  rcases h with ⟨x, h1, h2⟩ | ⟨x, σ', h1, h2⟩ | ⟨nm, x, σ', h1, h2, h3⟩ | ⟨k, args, Ns, Q, h1, h2, h3, h4, h5⟩
  · rw [put_σ, valA_congr hev] at h1
    exact .inl ⟨x, h1, by rw [put_put hd] at h2; exact h2⟩
  · rw [put_σ, mutA_congr hev] at h1
    exact .inr (.inl ⟨x, σ', h1, by rw [put_withσ, put_put hd] at h2; exact h2⟩)
  · rw [put_σ, newA_congr hev] at h1
    rw [put_fr] at h2 h3
    exact .inr (.inr (.inl ⟨nm, x, σ', h1, h2, by rw [put_with, put_put hd] at h3; exact h3⟩))
  · rw [callA_congr hev] at h1
    rw [put_σ] at h3
    rw [put_fr] at h4 h5
    exact .inr (.inr (.inr ⟨k, args, Ns, Q, h1, h2, h3, h4, fun x σ' hq => by have := h5 x σ' hq; rw [put_with, put_put hd] at this; exact this⟩))

/-- What an operation of values comes to, its guard told. -/
def YieldA (tt : Nat → Option TI) (ds : List (Option Tmp)) (st : AS) (o : Oper) (x : AV) : Prop :=
  match o.guard with
  | none => valA tt st.ev st.σ o.op = some x
  | some (g, want) => ∃ d b, ds[g]? = some (some d) ∧ st.t d = .bool b ∧ (b = want → valA tt st.ev st.σ o.op = some x) ∧ (b ≠ want → x = .junk)

theorem StepA.val {st : AS} {o : Oper} {K : AS → Prop} (ho : valOp o.op = true) (h : StepA P tt st o K) : ∃ x, valA tt st.ev st.σ o.op = some x ∧ K (st.put o.dst x) := by
  rcases h with h | ⟨x, σ', h1, h2⟩ | ⟨nm, x, σ', h1, h2, h3⟩ | ⟨k, args, Ns, Q, h1, h2, h3, h4, h5⟩
  · exact h
  · rw [(valOp_only ho st.ev st.σ 0).1] at h1; cases h1
  · rw [(valOp_only ho st.ev st.σ nm).2.1] at h1; cases h1
  · rw [(valOp_only (tt := tt) ho st.ev st.σ 0).2.2] at h1; cases h1

theorem OpA.val {ds : List (Option Tmp)} {st : AS} {o : Oper} {K : AS → Prop} (ho : valOp o.op = true) (h : OpA P tt ds st o K) : ∃ x, YieldA tt ds st o x ∧ K (st.put o.dst x) := by
  unfold OpA at h
  unfold YieldA
  split at h
  · rename_i hg; rw [hg]; exact h.val ho
  · rename_i g want hg
    rw [hg]
    obtain ⟨d, b, h1, h2, h3, h4⟩ := h
    by_cases e : b = want
    · obtain ⟨x, k1, k2⟩ := (h3 e).val ho
      exact ⟨x, ⟨d, b, h1, h2, fun _ => k1, fun e' => absurd e e'⟩, k2⟩
    · exact ⟨.junk, ⟨d, b, h1, h2, fun e' => absurd e' e, fun _ => rfl⟩, h4 e⟩
theorem YieldA.op {ds : List (Option Tmp)} {st : AS} {o : Oper} {K : AS → Prop} {x : AV} (h : YieldA tt ds st o x) (hk : K (st.put o.dst x)) : OpA P tt ds st o K := by
  unfold YieldA at h
  unfold OpA
  split at h
  · rename_i hg; rw [hg]; exact .inl ⟨x, h, hk⟩
  · rename_i g want hg
    rw [hg]
    obtain ⟨d, b, h1, h2, h3, h4⟩ := h
    exact ⟨d, b, h1, h2, fun e => .inl ⟨x, h3 e, hk⟩, fun e => by rw [← h4 e]; exact hk⟩

theorem looksAt_op {ops : Array Oper} {o : Oper} {k : Tmp} (h : k ∉ o.looksAt ops) : Operand.tmp k ∉ o.op.operands := fun hx =>
  h (List.mem_append_left _ (List.mem_filterMap.2 ⟨.tmp k, by simpa using hx, rfl⟩))
theorem looksAt_guard {ops : Array Oper} {o : Oper} {k g : Nat} {want : Bool} (hg : o.guard = some (g, want)) (hd : (ops.toList.map (·.dst))[g]? = some (some k)) : k ∈ o.looksAt ops := by
  refine List.mem_append_right _ ?_
  rw [hg]
  rw [List.getElem?_map] at hd
  cases ho : ops.toList[g]? with
  | none => rw [ho] at hd; cases hd
  | some og =>
    rw [ho] at hd
    simp only [Option.map_some, Option.some.injEq] at hd
    have : ops[g]? = some og := by simpa using ho
    simp [this, hd]

theorem OpA.frame {ds : List (Option Tmp)} {st : AS} {o : Oper} {K : AS → Prop} (h : OpA P tt ds st o K) : OpA P tt ds st o (fun s => K s ∧ Fr st o s) := by
  unfold OpA at *
  split
  · rename_i hg; rw [hg] at h; exact h.frame
  · rename_i g want hg
    rw [hg] at h
    obtain ⟨d, b, h1, h2, h3, h4⟩ := h
    exact ⟨d, b, h1, h2, fun e => (h3 e).frame, fun e => ⟨h4 e, ⟨fun n hn => put_t hn, fun _ => put_σ, fun _ _ n q hq => (by rw [put_σ]; exact hq)⟩⟩⟩
theorem OpA.put {ops : Array Oper} {st : AS} {o : Oper} {K : AS → Prop} {d : Option Tmp} {y : AV} (hl : ∀ k, d = some k → k ∉ o.looksAt ops) (hd : ∀ k, d = some k → o.dst ≠ some k)
    (h : OpA P tt (ops.toList.map (·.dst)) (st.put d y) o K) : OpA P tt (ops.toList.map (·.dst)) st o (fun s => K (s.put d y)) := by
  unfold OpA at *
  split
  · rename_i hg; rw [hg] at h; exact h.put (fun k hk => looksAt_op (hl k hk)) hd
  · rename_i g want hg
    rw [hg] at h
    obtain ⟨e, b, h1, h2, h3, h4⟩ := h
    have hne : d ≠ some e := fun e' => hl e e' (looksAt_guard hg h1)
    rw [put_t hne] at h2
    exact ⟨e, b, h1, h2, fun q => (h3 q).put (fun k hk => looksAt_op (hl k hk)) hd, fun q => by have := h4 q; rw [put_put hd] at this; exact this⟩

def swOk (oi oj : Oper) : Bool := pureOp oi.op || (readOp oi.op && (valOp oj.op || newOp oj.op))

theorem YieldA.keep {ops : Array Oper} {st s : AS} {oi oj : Oper} {x : AV} (hsw : swOk oi oj = true) (hap : oi.apart ops oj = true) (hg : Good st) (hy : YieldA tt (ops.toList.map (·.dst)) st oi x) (hf : Fr st oj s) : YieldA tt (ops.toList.map (·.dst)) s oi x := by
  obtain ⟨a1, a2, a3⟩ := Oper.apart_spec hap
  have hev : ∀ y ∈ oi.op.operands, s.ev y = st.ev y := fun y hy => by
    cases y with
    | tmp i => exact hf.t i fun e => looksAt_op (a3 i e) hy
    | const v => rfl
    | global g => rfl
    | func f => rfl
  have hval : valA tt st.ev st.σ oi.op = some x → valA tt s.ev s.σ oi.op = some x := fun h => by
    rw [valA_congr hev]
    simp only [swOk, Bool.or_eq_true, Bool.and_eq_true] at hsw
    rcases hsw with k | ⟨k1, k2 | k2⟩
    · rw [← pureOp_σ k st.ev st.σ s.σ]; exact h
    · rw [hf.val k2]; exact h
    · exact valA_grow (by simp [valOp, k1]) (hf.new k2 hg) h
  unfold YieldA at *
  split at hy
  · exact hval hy
  · rename_i g want hgd
    obtain ⟨d, b, h1, h2, h3, h4⟩ := hy
    refine ⟨d, b, h1, ?_, fun e => hval (h3 e), h4⟩
    rw [hf.t d fun e => a3 d e (looksAt_guard hgd h1)]
    exact h2

theorem swap {ops : Array Oper} {st : AS} {oi oj : Oper} {x : AV} {K : AS → Prop} (hsw : swOk oi oj = true) (hap : oi.apart ops oj = true) (hg : Good st) (hy : YieldA tt (ops.toList.map (·.dst)) st oi x)
    (h : OpA P tt (ops.toList.map (·.dst)) (st.put oi.dst x) oj K) : OpA P tt (ops.toList.map (·.dst)) st oj (fun s => YieldA tt (ops.toList.map (·.dst)) s oi x ∧ K (s.put oi.dst x)) := by
  obtain ⟨a1, a2, a3⟩ := Oper.apart_spec hap
  exact OpA.mono (fun s ⟨h1, h2⟩ => ⟨hy.keep hsw hap hg h2, h1⟩) (OpA.frame (OpA.put a1 a2 h))

end Go.Ab
