/- Ab9: operations that turn what is told by name; calls; a region in the text's order. -/
import Derived.Test.YtilpklkgmibpgaaAb8
import Derived.TacticsIn
namespace Go.Ab
open Go.RowKit
set_option linter.unusedVariables false
set_option linter.unusedSimpArgs false
variable {P : Program} {tt : Nat → Option TI} {r : Option Nat}

def isOs : AV → Bool
  | .os _ _ _ => true
  | _ => false
def isNils : AV → Bool
  | .nils => true
  | _ => false

/-- What writes to what has a name. -/
def mutA (tt : Nat → Option TI) (ρ : Operand → AV) (σ : Nat → Option AO) : Op → Option (AV × (Nat → Option AO))
  | .store T a x => (storeA tt σ T (ρ a) (ρ x)).map fun s => (.junk, s)
  | .mapUpdate T m k x => (mapPutA tt σ T (ρ m) (ρ k) (ρ x)).map fun s => (.junk, s)
  | .insert T m k x => (mapPutA tt σ T (ρ m) (ρ k) (ρ x)).map fun s => (.junk, s)
  | .call c => match c.callee with
    | .builtin b => match b, c.argTypes.toList, c.args.toList with
      | .append, [T, T'], [s, x] => if T' = T ∧ isOs (ρ s) = true then (match appendA tt σ 0 T (ρ s) (ρ x) with
        | some p => some p
        | none => appendIn tt σ T (ρ s) (ρ x)) else none
      | .delete, [T, _], [m, k] => (mapDelA tt σ T (ρ m) (ρ k)).map fun s => (.junk, s)
      | .clear, [T], [m] => match mapClearA tt σ T (ρ m) with
        | some s => some (.junk, s)
        | none => (clearS tt σ T (ρ m)).map fun s => (.junk, s)
      | _, _, _ => none
    | _ => none
  | _ => none

/-- What makes something that has a name. -/
def newA (tt : Nat → Option TI) (ρ : Operand → AV) (σ : Nat → Option AO) (nm : Nat) : Op → Option (AV × (Nat → Option AO))
  | .alloc T => allocA tt σ nm T
  | .box T x => boxA σ nm T (ρ x)
  | .makeMap T q => if q.isNone = true then some (makeMapA σ nm) else none
  | .buildSlice T len ps => (rowsA tt T len (ps.toList.map fun p => (p.1, ρ p.2))).map fun q => (.os nm 0 q.2.2.length, upd σ nm (some (.arr q.1 q.2.1 0 q.2.2)))
  | .call c => match c.callee with
    | .builtin b => match b, c.argTypes.toList, c.args.toList with
      | .append, [T, T'], [s, x] => if T' = T ∧ isNils (ρ s) = true then appendA tt σ nm T (ρ s) (ρ x) else none
      | _, _, _ => none
    | _ => none
  | _ => none

/-- How an operation comes back: a value, or nothing. -/
def Back (R : Env) (x : AV) (nx : Next) : Prop := (nx = .skip ∧ x = .junk) ∨ ∃ v, nx = .value v ∧ VRel R x v

theorem mutA_sound (ht : TTok P tt) {w : World} {φ : Nat → Ref} {σ σ' : Nat → Option AO} (hs : SRel ⟨w, φ, σ⟩) {ρ : Operand → AV} {ρ' : Operand → Value} {o : Oper} (hρ : ∀ x, VRel ⟨w, φ, σ⟩ (ρ x) (ρ' x)) {x : AV}
    (h : mutA tt ρ σ o.op = some (x, σ')) : ∃ nx w' φ', (execOp ρ' o).run P w = .ok nx w' ∧ Back ⟨w', φ', σ'⟩ x nx ∧ (∀ m, φ m = .unset → φ' m = .unset) ∧ SRel ⟨w', φ', σ'⟩ ∧ Ext ⟨w, φ, σ⟩ ⟨w', φ', σ'⟩ := by
  obtain ⟨dst, op, type, pos, after, guard⟩ := o
  have un : ∀ {s : Sem Unit} {q : Option (Nat → Option AO)}, (q.map fun s => (AV.junk, s)) = some (x, σ') → (∀ {σ1}, q = some σ1 → ∃ w', s.run P w = .ok () w' ∧ SRel ⟨w', φ, σ1⟩ ∧ Ext ⟨w, φ, σ⟩ ⟨w', φ, σ1⟩) →
      ∃ nx w' φ', (do s; pure Next.skip : Sem Next).run P w = .ok nx w' ∧ Back ⟨w', φ', σ'⟩ x nx ∧ (∀ m, φ m = .unset → φ' m = .unset) ∧ SRel ⟨w', φ', σ'⟩ ∧ Ext ⟨w, φ, σ⟩ ⟨w', φ', σ'⟩ := by
    intro s q hq hh
    cases q with
    | none => cases hq
    | some σ1 =>
      cases hq
      obtain ⟨w', h1, h2, h3⟩ := hh rfl
      exact ⟨.skip, w', φ, by simp [h1], .inl ⟨rfl, rfl⟩, fun _ e => e, h2, h3⟩
  cases op <;> simp only [mutA] at h <;> (try (cases h; done)) <;> simp only [execOp]
  case store T a y => exact un h fun e => storeA_sound ht hs e (hρ a) (hρ y)
  case mapUpdate T m k y => exact un h fun e => mapPutA_sound ht hs e (hρ m) (hρ k) (hρ y)
  case insert T m k y => exact un h fun e => mapPutA_sound ht hs e (hρ m) (hρ k) (hρ y)
  case call c =>
    obtain ⟨callee, args, argTypes⟩ := c
    cases callee <;> simp only at h <;> try (cases h; done)
    rename_i b
    split at h
    · rename_i T T' y z h1 h2
      have e1 : argTypes = #[T, T'] := by rw [← Array.toList_inj]; exact h1
      have e2 : args = #[y, z] := by rw [← Array.toList_inj]; exact h2
      subst e1 e2
      split at h
      · rename_i hc
        obtain ⟨rfl, hos⟩ := hc
        have hnn : ρ y ≠ .nils := by intro e; rw [e] at hos; cases hos
        split at h
        · rename_i p hp
          cases h
          obtain ⟨v, w', φ', k1, k2, k3, k4, k5⟩ := appendA_sound (ty := type) ht hs hp (hρ y) (hρ z) (fun e => absurd e hnn)
          exact ⟨.value v, w', φ', by simp [resolve, invoke, builtin, k1], .inr ⟨v, rfl, k3⟩, fun m hm => k2 m hm (.inr hnn), k4, k5⟩
        · obtain ⟨v, w', k1, k2, k3, k4⟩ := appendIn_sound (ty := type) ht hs h (hρ y) (hρ z)
          exact ⟨.value v, w', φ, by simp [resolve, invoke, builtin, k1], .inr ⟨v, rfl, k2⟩, fun _ e => e, k3, k4⟩
      · cases h
    · rename_i T T' y z h1 h2
      have e1 : argTypes = #[T, T'] := by rw [← Array.toList_inj]; exact h1
      have e2 : args = #[y, z] := by rw [← Array.toList_inj]; exact h2
      subst e1 e2
      cases hq : mapDelA tt σ T (ρ y) (ρ z) with
      | none => rw [hq] at h; cases h
      | some σ1 =>
        rw [hq] at h; cases h
        obtain ⟨w', k1, k2, k3⟩ := mapDelA_sound (T2 := T') (ty := type) ht hs hq (hρ y) (hρ z)
        exact ⟨.value (.tuple #[]), w', φ, by simp [resolve, invoke, builtin, k1], .inr ⟨_, rfl, trivial⟩, fun _ e => e, k2, k3⟩
    · rename_i T y h1 h2
      have e1 : argTypes = #[T] := by rw [← Array.toList_inj]; exact h1
      have e2 : args = #[y] := by rw [← Array.toList_inj]; exact h2
      subst e1 e2
      cases hq : mapClearA tt σ T (ρ y) with
      | none =>
        rw [hq] at h
        simp only at h
        cases hq2 : clearS tt σ T (ρ y) with
        | none => rw [hq2] at h; cases h
        | some σ1 =>
          rw [hq2] at h; cases h
          obtain ⟨w', k1, k2, k3⟩ := clearS_sound (ty := type) ht hs hq2 (hρ y)
          exact ⟨.value (.tuple #[]), w', φ, by simp [resolve, invoke, builtin, k1], .inr ⟨_, rfl, trivial⟩, fun _ e => e, k2, k3⟩
      | some σ1 =>
        rw [hq] at h; cases h
        obtain ⟨w', k1, k2, k3⟩ := mapClearA_sound (ty := type) ht hs hq (hρ y)
        exact ⟨.value (.tuple #[]), w', φ, by simp [resolve, invoke, builtin, k1], .inr ⟨_, rfl, trivial⟩, fun _ e => e, k2, k3⟩
    · cases h

theorem newA_sound (ht : TTok P tt) {w : World} {φ : Nat → Ref} {σ σ' : Nat → Option AO} (hs : SRel ⟨w, φ, σ⟩) {nm : Nat} {ρ : Operand → AV} {ρ' : Operand → Value} {o : Oper} (hρ : ∀ x, VRel ⟨w, φ, σ⟩ (ρ x) (ρ' x)) {x : AV}
    (h : newA tt ρ σ nm o.op = some (x, σ')) (hn : φ nm = .unset) :
    ∃ nx w' φ', (execOp ρ' o).run P w = .ok nx w' ∧ Back ⟨w', φ', σ'⟩ x nx ∧ (∀ m, φ m = .unset → m ≠ nm → φ' m = .unset) ∧ SRel ⟨w', φ', σ'⟩ ∧ Ext ⟨w, φ, σ⟩ ⟨w', φ', σ'⟩ := by
  obtain ⟨dst, op, type, pos, after, guard⟩ := o
  have un : ∀ {s : Sem Value} {b : Nat}, (∃ u w', s.run P w = .ok u w' ∧ VRel ⟨w', upd φ nm (.blk b), σ'⟩ x u ∧ SRel ⟨w', upd φ nm (.blk b), σ'⟩ ∧ Ext ⟨w, φ, σ⟩ ⟨w', upd φ nm (.blk b), σ'⟩) →
      ∃ nx w' φ', (do pure (Next.value (← s)) : Sem Next).run P w = .ok nx w' ∧ Back ⟨w', φ', σ'⟩ x nx ∧ (∀ m, φ m = .unset → m ≠ nm → φ' m = .unset) ∧ SRel ⟨w', φ', σ'⟩ ∧ Ext ⟨w, φ, σ⟩ ⟨w', φ', σ'⟩ := by
    rintro s b ⟨u, w', h1, h2, h3, h4⟩
    exact ⟨.value u, w', _, by simp [h1], .inr ⟨u, rfl, h2⟩, fun m hm hne => by rw [upd_ne _ _ hne]; exact hm, h3, h4⟩
  have parts : ∀ (ps : Array (Nat × Operand)), (ps.toList.map fun p => (p.1, ρ p.2)).map (·.1) = (ps.map fun (i, x) => (i, ρ' x)).toList.map (·.1) ∧ LRel ⟨w, φ, σ⟩ ((ps.toList.map fun p => (p.1, ρ p.2)).map (·.2)) ((ps.map fun (i, x) => (i, ρ' x)).toList.map (·.2)) := by
    intro ps
    refine ⟨by simp, ?_⟩
    simp only [Array.toList_map, List.map_map]
    exact LRel.map _ _ _ fun a _ => hρ a.2
  cases op <;> simp only [newA] at h <;> (try (cases h; done)) <;> simp only [execOp]
  case alloc T => exact un (allocA_sound ht hs h hn)
  case box T y => exact un (boxA_sound hs h (hρ y) hn)
  case makeMap T q =>
    split at h
    · rename_i hq
      cases q with
      | none => cases h; exact un (makeMapA_sound hs hn)
      | some q => cases hq
    · cases h
  case buildSlice T len ps =>
    cases hr : rowsA tt T len (ps.toList.map fun p => (p.1, ρ p.2)) with
    | none => rw [hr] at h; cases h
    | some q =>
      obtain ⟨e, size, rows⟩ := q
      rw [hr] at h; cases h
      obtain ⟨u, w', φ', h1, h2, h3, h4, h5⟩ := buildSlice_name ht hs hr (parts ps) hn
      exact ⟨.value u, w', φ', by simp [h1], .inr ⟨u, rfl, h3⟩, fun m hm hne => by rw [h2 m hne]; exact hm, h4, h5⟩
  case call c =>
    obtain ⟨callee, args, argTypes⟩ := c
    cases callee <;> simp only at h <;> try (cases h; done)
    rename_i b
    split at h
    · rename_i T T' y z h1 h2
      have e1 : argTypes = #[T, T'] := by rw [← Array.toList_inj]; exact h1
      have e2 : args = #[y, z] := by rw [← Array.toList_inj]; exact h2
      subst e1 e2
      split at h
      · rename_i hc
        obtain ⟨rfl, hos⟩ := hc
        obtain ⟨v, w', φ', k1, k2, k3, k4, k5⟩ := appendA_sound (ty := type) ht hs h (hρ y) (hρ z) (fun _ => hn)
        exact ⟨.value v, w', φ', by simp [resolve, invoke, builtin, k1], .inr ⟨v, rfl, k3⟩, fun m hm hne => k2 m hm (.inl hne), k4, k5⟩
      · cases h
    · cases h

/-! ### Calls -/
def callA (ρ : Operand → AV) : Op → Option (Tgt × List AV)
  | .call c => match c.callee with
    | .value f => match ρ f with
      | .fn (.func k) fs cs => some (.fn k, fs ++ c.args.toList.map ρ ++ cs)
      | .yld n => some (.yl n, c.args.toList.map ρ)
      | _ => none
    | _ => none
  | _ => none
def okFn (P : Program) (k : FuncId) : Bool :=
  match P.funcs[k]? with
  | some fn => fn.name != "runtime.NumGoroutine" && fn.body.isSome
  | none => false
def okT (P : Program) : Tgt → Bool
  | .fn k => okFn P k
  | .yl _ => true
theorem okFn_run {k : FuncId} (h : okFn P k = true) (args : Array Value) (w : World) : (callFunc k args).run P w = .ok (.enter k args) w := by
  unfold okFn at h
  split at h
  · rename_i fn hf
    simp only [Bool.and_eq_true, bne_iff_ne, ne_eq] at h
    obtain ⟨h1, h2⟩ := h
    have hb : ¬ fn.body = none := fun e => by rw [e] at h2; cases h2
    simp [callFunc, program, Sem.run, hf, h1, hb]
  · cases h

theorem callA_sound {w : World} {φ : Nat → Ref} {σ : Nat → Option AO} {ρ : Operand → AV} {ρ' : Operand → Value} {o : Oper} (hρ : ∀ x, VRel ⟨w, φ, σ⟩ (ρ x) (ρ' x)) {k : Tgt} {args : List AV} (h : callA ρ o.op = some (k, args)) (hk : okT P k = true) :
    ∃ vs : List Value, LRel ⟨w, φ, σ⟩ args vs ∧ match k with
      | .fn k => (execOp ρ' o).run P w = .ok (.enter k vs.toArray) w
      | .yl n => ∃ b, φ n = .blk b ∧ (execOp ρ' o).run P w = (Instr.yield b vs.toArray).run P w := by
  obtain ⟨dst, op, type, pos, after, guard⟩ := o
  cases op <;> simp only [callA] at h <;> (try (cases h; done)) <;> simp only [execOp]
  rename_i c
  obtain ⟨callee, as, argTypes⟩ := c
  cases callee <;> simp only at h <;> try (cases h; done)
  rename_i f
  split at h
  · rename_i k' fs cs hf
    cases h
    have := hρ f
    rw [hf] at this
    obtain ⟨fs', cs', e, h1, h2⟩ := this
    refine ⟨fs'.toList ++ (as.map ρ').toList ++ cs'.toList, ?_, ?_⟩
    · refine LRel.append (LRel.append h1 ?_) h2
      rw [Array.toList_map]
      exact LRel.map ρ ρ' _ fun a _ => hρ a
    · have := okFn_run hk (fs' ++ as.map ρ' ++ cs') w
      have e3 : (fs'.toList ++ (as.map ρ').toList ++ cs'.toList).toArray = fs' ++ as.map ρ' ++ cs' := by simp
      simp only [e3]
      simpa [resolve, e, Deferred.ofValue, invoke] using this
  · rename_i n hf
    cases h
    have := hρ f
    rw [hf] at this
    obtain ⟨b, hb, e⟩ := this
    refine ⟨(as.map ρ').toList, ?_, b, hb, ?_⟩
    · rw [Array.toList_map]
      exact LRel.map ρ ρ' _ fun a _ => hρ a
    · rw [Array.toArray_toList]
      simp [resolve, e, Deferred.ofValue, invoke]
  · cases h

/-! ### One operation, told of states -/
def AS.put (st : AS) (dst : Option Tmp) (x : AV) : AS :=
  match dst with
  | none => st
  | some d => { st with t := upd st.t d x }

def StepA (P : Program) (tt : Nat → Option TI) (st : AS) (o : Oper) (K : AS → Prop) : Prop :=
  (∃ x, valA tt st.ev st.σ o.op = some x ∧ K (st.put o.dst x)) ∨
  (∃ x σ', mutA tt st.ev st.σ o.op = some (x, σ') ∧ K (({ st with σ := σ' } : AS).put o.dst x)) ∨
  (∃ nm x σ', newA tt st.ev st.σ nm o.op = some (x, σ') ∧ nm ∈ st.fr ∧ K (({ st with σ := σ', fr := st.fr.filter fun n => n != nm } : AS).put o.dst x)) ∨
  (∃ k args Ns Q, callA st.ev o.op = some (k, args) ∧ okT P k = true ∧ CallT P k args st.σ Ns Q ∧ (∀ n, n ∈ Ns → n ∈ st.fr) ∧
    ∀ x σ', Q x σ' → K (({ st with σ := σ', fr := st.fr.filter fun n => !Ns.contains n } : AS).put o.dst x))

theorem StepA.mono {st : AS} {o : Oper} {K K' : AS → Prop} (h : ∀ s, K s → K' s) (hh : StepA P tt st o K) : StepA P tt st o K' := by
  rcases hh with ⟨x, h1, h2⟩ | ⟨x, σ', h1, h2⟩ | ⟨nm, x, σ', h1, h2, h3⟩ | ⟨k, args, Ns, Q, h1, h2, h3, h4, h5⟩
  · exact .inl ⟨x, h1, h _ h2⟩
  · exact .inr (.inl ⟨x, σ', h1, h _ h2⟩)
  · exact .inr (.inr (.inl ⟨nm, x, σ', h1, h2, h _ h3⟩))
  · exact .inr (.inr (.inr ⟨k, args, Ns, Q, h1, h2, h3, h4, fun x σ' hq => h _ (h5 x σ' hq)⟩))

theorem slot_put {R : Env} {t : Nat → AV} {a : Act} {m : Nat} (h : ∀ i, VRel R (t i) (a.tmps.getD i undef)) (hm : a.tmps.size = m) {d : Nat} (hd : d < m) {x : AV} {v : Value} (hx : VRel R x v) (i : Nat) :
    VRel R (upd t d x i) ((a.put (some d) v).tmps.getD i undef) := by
  simp only [Act.put]
  by_cases e : i = d
  · subst e
    rw [upd_same]
    simpa [hm, hd] using hx
  · rw [upd_ne _ _ e]
    have := h i
    simpa [Array.getElem?_setIfInBounds_ne (Ne.symm e)] using this

/-- A state goes on by one value. -/
theorem CRel.put {st : AS} {a : Act} {w w' : World} {φ φ' : Nat → Ref} {σ' : Nat → Option AO} {fr' : List Nat} (h : CRel st a w φ) (hx : Ext ⟨w, φ, st.σ⟩ ⟨w', φ', σ'⟩) (hs : SRel ⟨w', φ', σ'⟩) (hf : ∀ n, st.c ≤ n → φ' n = .unset)
    (hfr : ∀ n, n ∈ fr' → n ∈ st.fr ∧ φ' n = .unset) (hun : ∀ n, n < st.c → n ∉ st.fr → φ n = .unset → φ' n = .unset) {dst : Option Tmp} (hd : ∀ d, dst = some d → d < st.m) {x : AV} {v : Value} (hv : VRel ⟨w', φ', σ'⟩ x v) :
    CRel (({ st with σ := σ', fr := fr' } : AS).put dst x) (a.put dst v) w' φ' ∧ Evo st w φ (({ st with σ := σ', fr := fr' } : AS).put dst x) w' φ' := by
  have base : CRel ({ st with σ := σ', fr := fr' } : AS) a w' φ' := ⟨fun i => VRel.mono hx _ _ (h.slot i), h.size, marks.mono hx h.defers, hs, hf, fun n hn => ⟨(h.free n (hfr n hn).1).1, (hfr n hn).2⟩⟩
  have evo : Evo st w φ ({ st with σ := σ', fr := fr' } : AS) w' φ' := ⟨hx, Nat.le_refl _, fun n hn _ => (hfr n hn).1, hun⟩
  cases dst with
  | none => exact ⟨base, evo⟩
  | some d =>
    exact ⟨⟨fun i => slot_put base.slot h.size (hd d rfl) hv i, by simp [Act.put, AS.put, h.size], base.defers, hs, hf, base.free⟩, ⟨hx, Nat.le_refl _, evo.fr_sub, hun⟩⟩

theorem Oper.about_fen (o : Oper) (ρ : Operand → Value) (w : World) : ∀ f, o.about P w ρ = some f → (fen r).fn f := fun _ _ => trivial

theorem uponIn_back {o : Oper} {a : Act} {R : Env} {x : AV} {nx : Next} {w' : World} {K : Act → World → Prop} {Q : Exit → Act → World → Prop} (hb : Back R x nx) (h : ∀ v, VRel R x v → K (a.put o.dst v) w') :
    o.uponIn (fen r) 0 P a K Q (.ok nx w') := by
  rcases hb with ⟨rfl, rfl⟩ | ⟨v, rfl, hv⟩
  · exact h undef trivial
  · exact h v hv

theorem valA_defer {tt : Nat → Option TI} {ρ : Operand → AV} {σ : Nat → Option AO} {c : Call} {x : AV} : valA tt ρ σ (.defer c) = some x → False := by simp [valA]

theorem StepA.sound (ht : TTok P tt) {st : AS} {o : Oper} {K : AS → Prop} {a : Act} {w : World} {φ : Nat → Ref} {Q : Exit → Act → World → Prop} (hr : CRel st a w φ) (hd : ∀ d, o.dst = some d → d < st.m) (h : StepA P tt st o K) :
    o.wpIn (fen r) 0 P a w (fun a' w' => ∃ st' φ', K st' ∧ CRel st' a' w' φ' ∧ Evo st w φ st' w' φ') Q := by
  refine ⟨Oper.about_fen o _ _, ?_⟩
  have hsem : o.semAt (fen r).round a.eval = execOp a.eval o := by
    refine Oper.semAt_eq _ _ _ fun c e => ?_
    rcases h with ⟨x, h1, h2⟩ | ⟨x, σ', h1, h2⟩ | ⟨nm, x, σ', h1, h2, h3⟩ | ⟨k, args, Ns, Q, h1, h2, h3, h4, h5⟩
    · rw [e] at h1; simp [valA] at h1
    · rw [e] at h1; simp [mutA] at h1
    · rw [e] at h1; simp [newA] at h1
    · rw [e] at h1; simp [callA] at h1
  rw [hsem]
  rcases h with ⟨x, h1, h2⟩ | ⟨x, σ', h1, h2⟩ | ⟨nm, x, σ', h1, h2, h3⟩ | ⟨k, args, Ns, Qc, h1, h2, h3, h4, h5⟩
  · obtain ⟨v, w', e1, e2, e3, e4⟩ := valA_sound ht hr.store hr.ev h1
    rw [e1]
    obtain ⟨c1, c2⟩ := hr.put e4 e3 hr.fresh (fun n hn => ⟨hn, (hr.free n hn).2⟩) (fun n _ _ e => e) hd e2
    exact ⟨_, φ, h2, c1, c2⟩
  · obtain ⟨nx, w', φ', e1, e2, e3, e4, e5⟩ := mutA_sound ht hr.store hr.ev h1
    rw [e1]
    refine uponIn_back e2 fun v hv => ?_
    obtain ⟨c1, c2⟩ := hr.put e5 e4 (fun n hn => e3 n (hr.fresh n hn)) (fun n hn => ⟨hn, e3 n (hr.free n hn).2⟩) (fun n _ _ e => e3 n e) hd hv
    exact ⟨_, φ', h2, c1, c2⟩
  · obtain ⟨hc, hn⟩ := hr.free nm h2
    obtain ⟨nx, w', φ', e1, e2, e3, e4, e5⟩ := newA_sound ht hr.store hr.ev h1 hn
    rw [e1]
    refine uponIn_back e2 fun v hv => ?_
    obtain ⟨c1, c2⟩ := hr.put (fr' := st.fr.filter fun n => n != nm) e5 e4 (fun n hn' => e3 n (hr.fresh n hn') (by omega)) (fun n hn' => by
      simp only [List.mem_filter, bne_iff_ne, ne_eq] at hn'
      exact ⟨hn'.1, e3 n (hr.free n hn'.1).2 hn'.2⟩) (fun n _ hf e => e3 n e (fun e' => hf (e' ▸ h2))) hd hv
    exact ⟨_, φ', h3, c1, c2⟩
  · obtain ⟨vs, e1, e2⟩ := callA_sound hr.ev h1 h2
    have fin : ∀ (v : Value) (x : AV) (σ' : Nat → Option AO) (φ' : Nat → Ref) (w' : World), VRel ⟨w', φ', σ'⟩ x v → Qc x σ' → SRel ⟨w', φ', σ'⟩ → (∀ n, st.c ≤ n → φ' n = .unset) → (∀ n, n < st.c → n ∉ Ns → φ n = .unset → φ' n = .unset) → Ext ⟨w, φ, st.σ⟩ ⟨w', φ', σ'⟩ →
        ∃ st' φ', K st' ∧ CRel st' (a.put o.dst v) w' φ' ∧ Evo st w φ st' w' φ' := by
      intro v x σ' φ' w' hv hq hs hf hun hx
      obtain ⟨c1, c2⟩ := hr.put (fr' := st.fr.filter fun n => !Ns.contains n) hx hs hf (fun n hn' => by
        simp only [List.mem_filter, Bool.not_eq_true', List.contains_eq_mem, decide_eq_false_iff_not] at hn'
        exact ⟨hn'.1, hun n (hr.free n hn'.1).1 hn'.2 (hr.free n hn'.1).2⟩) (fun n hc hf' e => hun n hc (fun e' => hf' (h4 n e')) e) hd hv
      exact ⟨_, φ', h5 x σ' hq, c1, c2⟩
    cases k with
    | fn k =>
      simp only at e2
      rw [e2]
      refine ⟨fun hh => by simp [fen] at hh, ?_⟩
      have hcall := (show CallA P k args st.σ Ns Qc from h3) st.c w φ vs e1 hr.store hr.fresh (fun n hn => hr.free n (h4 n hn))
      refine CallsIn.mono (F := fen r) (show CallsIn (fen r) 0 P k vs.toArray w _ from hcall) ?_
      rintro e w' ⟨v, x, σ', φ', rfl, hv, hq, hs, hf, hun, hx⟩
      exact fin v x σ' φ' w' hv hq hs hf hun hx
    | yl n =>
      obtain ⟨b, hb, e2⟩ := e2
      obtain ⟨fn, tmps, asg, body, k1, k2⟩ := (show RoundA P n args st.σ Ns Qc from h3) st.c w φ vs b hb e1 hr.store hr.fresh (fun n hn => hr.free n (h4 n hn))
      rw [e2, k1]
      refine ⟨fun hh => by simp [fen] at hh, ?_⟩
      refine RoundIn.mono (F := fen r) (show RoundIn (fen r) 0 P b fn tmps asg body w _ from k2) ?_
      rintro e w' ⟨v, x, σ', φ', rfl, hv, hq, hs, hf, hun, hx⟩
      exact fin v x σ' φ' w' hv hq hs hf hun hx

end Go.Ab
