/- Ab7: maps whose keys are whole numbers. -/
import Derived.Test.YtilpklkgmibpgaaAb6
namespace Go.Ab
open Go.RowKit
set_option linter.unusedVariables false
set_option linter.unusedSimpArgs false
variable {P : Program} {tt : Nat → Option TI}

def fnd (k : Int) : List (Int × AV) → Option (Nat × AV)
  | [] => none
  | (k', x) :: es => if k = k' then some (0, x) else (fnd k es).map fun (j, y) => (j + 1, y)

theorem fnd_now {R : Env} (k : Int) : ∀ {es : List (Int × AV)} {ents : List MapEntry} (i : Nat), ERel R es ents →
    match fnd k es with
    | none => Instr.findNow (.int .i64) (.int .i64 k) ents i = some none
    | some (j, x) => ∃ e, ents[j]? = some e ∧ e.key = .int .i64 k ∧ VRel R x e.val ∧ Instr.findNow (.int .i64) (.int .i64 k) ents i = some (some (i + j, e.val))
  | [], _, i, h => by obtain rfl : _ = [] := h; simp [fnd, Instr.findNow]
  | (k', x) :: es, _, i, h => by
    obtain ⟨v, c, es', rfl, h1, h2⟩ := h
    simp only [fnd]
    by_cases hk : k = k'
    · subst hk
      simp only [if_true]
      exact ⟨{ key := .int .i64 k, val := v, born := c }, by simp, rfl, h1, by simp [Instr.findNow, Instr.sameNow]⟩
    · rw [if_neg hk]
      have ih := fnd_now k (i + 1) h2
      have hs : Instr.sameNow (.int .i64) (.int .i64 k) (.int .i64 k') = some false := by simp [Instr.sameNow, hk]
      cases hf : fnd k es with
      | none => rw [hf] at ih; simpa [Instr.findNow, hs] using ih
      | some q =>
        obtain ⟨j, y⟩ := q
        rw [hf] at ih
        obtain ⟨e, e1, e2, e3, e4⟩ := ih
        exact ⟨e, by simpa using e1, e2, e3, by rw [show i + 1 + j = i + (j + 1) by omega] at e4; simpa [Instr.findNow, hs] using e4⟩

/-- A map's type, with whole numbers as keys: its elements' type. -/
def mapElem (tt : Nat → Option TI) (T : Nat) : Option (Nat × TI) :=
  match tt T with
  | some ti => match ti.d with
    | .map k e => match tt k, tt e with
      | some tk, some te => match tk.d with
        | .int .i64 => some (k, te)
        | _ => none
      | _, _ => none
    | _ => none
  | none => none
theorem mapElem_sound (ht : TTok P tt) {T k : Nat} {te : TI} (h : mapElem tt T = some (k, te)) : ∃ e, P.underlying T = some (.map k e) ∧ P.underlying k = some (.int .i64) ∧ TIs P e te := by
  unfold mapElem at h
  split at h
  · rename_i ti hT
    split at h
    · rename_i k' e hd
      split at h
      · rename_i tk te' hk he
        split at h
        · rename_i hkd
          cases h
          exact ⟨e, (ht.at hT).map hd, (ht.at hk).int hkd, ht.at he⟩
        · cases h
      · cases h
    · cases h
  · cases h

def lookupA (tt : Nat → Option TI) (σ : Nat → Option AO) (T : Nat) (m k : AV) (ok : Bool) : Option AV :=
  match mapElem tt T, k with
  | some (_, te), .int .i64 i =>
    match m with
    | .map n => match σ n with
      | some (.imap es) => match fnd i es with
        | some (_, x) => some (if ok then .tup [x, .bool true] else x)
        | none => some (if ok then .tup [te.zv, .bool false] else te.zv)
      | _ => none
    | _ => none
  | _, _ => none
theorem checkKey_int {K : Nat} (hk : P.underlying K = some (.int .i64)) (w : World) (e : Bool) (n : Nat) (i : Int) : (Instr.checkKey e (n + 1) K (.int .i64 i)).run P w = .ok () w := by
  simp [Instr.checkKey, run_underlying hk]
theorem lookupA_sound (ht : TTok P tt) {R : Env} (hs : SRel R) {T : Nat} {m k r : AV} {ok : Bool} {v u : Value} (h : lookupA tt R.σ T m k ok = some r) (hm : VRel R m v) (hk : VRel R k u) :
    ∃ z, (Instr.lookup T v u ok).run P R.w = .ok z R.w ∧ VRel R r z := by
  unfold lookupA at h
  split at h
  · rename_i K te i hT
    obtain ⟨e, hu, huk, tes⟩ := mapElem_sound ht hT
    obtain rfl : u = _ := hk
    split at h
    · rename_i n
      split at h
      · rename_i es hn
        obtain ⟨b, hb, rfl⟩ := hm
        obtain ⟨b', ents, clock, q1, q2, q3, q4⟩ := hs.obj n _ hn
        rw [hb] at q1; cases q1
        have hf := fnd_now i 0 q4
        have hck := checkKey_int huk R.w (ents.isEmpty) 9999 i
        obtain ⟨zv, hz1, hz2⟩ := tes.zv R.w
        split at h
        · rename_i j x hfx
          rw [hfx] at hf
          obtain ⟨en, e1, e2, e3, e4⟩ := hf
          cases h
          refine ⟨if ok then .tuple #[en.val, .bool true] else en.val, ?_, ?_⟩
          · simp [Instr.lookup, run_underlying hu, getObj, Sem.run, q2, hck, Instr.findKey, run_underlying huk, e4]
          · cases ok
            · exact e3
            · exact ⟨_, rfl, _, _, rfl, e3, _, _, rfl, rfl, rfl⟩
        · rename_i hfx
          rw [hfx] at hf
          cases h
          refine ⟨if ok then .tuple #[zv, .bool false] else zv, ?_, ?_⟩
          · simp [Instr.lookup, run_underlying hu, getObj, Sem.run, q2, hck, Instr.findKey, run_underlying huk, hf, hz1]
          · cases ok
            · exact hz2 R
            · exact ⟨_, rfl, _, _, rfl, hz2 R, _, _, rfl, rfl, rfl⟩
      · cases h
    · cases h
  · cases h

/-! ### stores -/
theorem stamps_modify {ents : List MapEntry} {clock i : Nat} {f : MapEntry → MapEntry} (hf : ∀ e, (f e).born = e.born) (h : stamps ents clock) : stamps (ents.modify i f) clock := by
  have hm : (ents.modify i f).map (·.born) = ents.map (·.born) := by
    apply List.ext_getElem?
    intro j
    simp only [List.getElem?_map, List.getElem?_modify]
    split <;> cases ents[j]? <;> simp [hf]
  refine ⟨by rw [hm]; exact h.1, fun e he => ?_⟩
  have : e.born ∈ (ents.modify i f).map (·.born) := List.mem_map_of_mem he
  rw [hm] at this
  obtain ⟨e', h1, h2⟩ := List.mem_map.1 this
  rw [← h2]; exact h.2 e' h1
theorem stamps_push {ents : List MapEntry} {clock : Nat} {e : MapEntry} (he : e.born = clock) (h : stamps ents clock) : stamps (ents ++ [e]) (clock + 1) := by
  refine ⟨?_, fun e' h' => ?_⟩
  · rw [List.map_append, List.pairwise_append]
    refine ⟨h.1, by simp, fun a ha b hb => ?_⟩
    obtain ⟨e', h1, rfl⟩ := List.mem_map.1 ha
    simp only [List.map_cons, List.map_nil, List.mem_singleton] at hb
    subst hb
    rw [he]; exact h.2 e' h1
  · rcases List.mem_append.1 h' with k | k
    · have := h.2 e' k; omega
    · simp at k; subst k; omega
theorem stamps_erase {ents : List MapEntry} {clock i : Nat} (h : stamps ents clock) : stamps (ents.eraseIdx i) clock := by
  refine ⟨?_, fun e he => h.2 e (List.mem_of_mem_eraseIdx he)⟩
  exact h.1.sublist (List.Sublist.map _ (List.eraseIdx_sublist _ _))

/-- A key's element put. -/
def putM (k : Int) (x : AV) : List (Int × AV) → List (Int × AV)
  | [] => [(k, x)]
  | (k', y) :: es => if k = k' then (k, x) :: es else (k', y) :: putM k x es
def delM (k : Int) : List (Int × AV) → List (Int × AV)
  | [] => []
  | (k', y) :: es => if k = k' then es else (k', y) :: delM k es

theorem putM_hit {R : Env} {k : Int} {x : AV} {v : Value} (hv : VRel R x v) : ∀ {es : List (Int × AV)} {ents : List MapEntry} {j : Nat} {y : AV}, ERel R es ents → fnd k es = some (j, y) →
    ERel R (putM k x es) (ents.modify j fun e => { e with key := .int .i64 k, val := v })
  | [], _, _, _, _, h => by simp [fnd] at h
  | (k', z) :: es, _, j, y, h, hf => by
    obtain ⟨u, c, es', rfl, h1, h2⟩ := h
    simp only [fnd] at hf
    simp only [putM]
    split at hf
    · rename_i hk
      cases hf
      rw [if_pos hk]
      exact ⟨v, c, es', by simp, hv, h2⟩
    · rename_i hk
      rw [if_neg hk]
      cases hq : fnd k es with
      | none => rw [hq] at hf; cases hf
      | some q =>
        obtain ⟨j', y'⟩ := q
        rw [hq] at hf
        simp only [Option.map_some, Option.some.injEq, Prod.mk.injEq] at hf
        obtain ⟨rfl, rfl⟩ := hf
        exact ⟨u, c, _, by simp, h1, putM_hit hv h2 hq⟩
theorem putM_miss {R : Env} {k : Int} {x : AV} {v : Value} {c0 : Nat} (hv : VRel R x v) : ∀ {es : List (Int × AV)} {ents : List MapEntry}, ERel R es ents → fnd k es = none →
    ERel R (putM k x es) (ents ++ [{ key := .int .i64 k, val := v, born := c0 }])
  | [], _, h, _ => by obtain rfl : _ = [] := h; exact ⟨v, c0, [], by simp, hv, rfl⟩
  | (k', z) :: es, _, h, hf => by
    obtain ⟨u, c, es', rfl, h1, h2⟩ := h
    simp only [fnd] at hf
    simp only [putM]
    split at hf
    · cases hf
    · rename_i hk
      rw [if_neg hk]
      have : fnd k es = none := by cases hq : fnd k es with | none => rfl | some q => rw [hq] at hf; cases hf
      exact ⟨u, c, _, by simp, h1, putM_miss (c0 := c0) hv h2 this⟩
theorem delM_hit {R : Env} {k : Int} : ∀ {es : List (Int × AV)} {ents : List MapEntry} {j : Nat} {y : AV}, ERel R es ents → fnd k es = some (j, y) → ERel R (delM k es) (ents.eraseIdx j)
  | [], _, _, _, _, h => by simp [fnd] at h
  | (k', z) :: es, _, j, y, h, hf => by
    obtain ⟨u, c, es', rfl, h1, h2⟩ := h
    simp only [fnd] at hf
    simp only [delM]
    split at hf
    · rename_i hk
      cases hf
      rw [if_pos hk]
      simpa using h2
    · rename_i hk
      rw [if_neg hk]
      cases hq : fnd k es with
      | none => rw [hq] at hf; cases hf
      | some q =>
        obtain ⟨j', y'⟩ := q
        rw [hq] at hf
        simp only [Option.map_some, Option.some.injEq, Prod.mk.injEq] at hf
        obtain ⟨rfl, rfl⟩ := hf
        exact ⟨u, c, _, by simp, h1, delM_hit h2 hq⟩
theorem delM_miss {k : Int} : ∀ {es : List (Int × AV)}, fnd k es = none → delM k es = es
  | [], _ => rfl
  | (k', z) :: es, hf => by
    simp only [fnd] at hf
    simp only [delM]
    split at hf
    · cases hf
    · rename_i hk
      rw [if_neg hk]
      have : fnd k es = none := by cases hq : fnd k es with | none => rfl | some q => rw [hq] at hf; cases hf
      rw [delM_miss this]

/-- A map's block is written. -/
theorem writeMap {w : World} {φ : Nat → Ref} {σ : Nat → Option AO} (hs : SRel ⟨w, φ, σ⟩) {n b : Nat} {es es' : List (Int × AV)} {ents ents' : Array MapEntry} {clock clock' : Nat} (hn : σ n = some (.imap es)) (hb : φ n = .blk b)
    (hh : w.heap[b]? = some (.map ents clock)) (hst : stamps ents'.toList clock') (hr : ERel ⟨w, φ, σ⟩ es' ents'.toList) :
    SRel ⟨{ w with heap := w.heap.setIfInBounds b (.map ents' clock') }, φ, upd σ n (some (.imap es'))⟩ ∧ Ext ⟨w, φ, σ⟩ ⟨{ w with heap := w.heap.setIfInBounds b (.map ents' clock') }, φ, upd σ n (some (.imap es'))⟩ := by
  have hlt : b < w.heap.size := (Array.getElem?_eq_some_iff.1 hh).1
  have hold : oldAt φ σ n = some b := by simp [oldAt, hn, hb, Ref.at]
  have hφ : upd φ n (.blk b) = φ := upd_self φ n hb
  have hk : ∀ k, k < w.heap.size → oldAt φ σ n ≠ some k → (w.heap.setIfInBounds b (.map ents' clock'))[k]? = w.heap[k]? := fun k _ hne => by
    rw [hold] at hne
    rw [Array.getElem?_setIfInBounds]
    rw [if_neg (fun e => hne (by rw [e]))]
  have hx := Ext.turn (w := w) (w' := { w with heap := w.heap.setIfInBounds b (.map ents' clock') }) (φ := φ) (σ := σ) (n := n) (ρ := .blk b) (.imap es') (by simp) rfl rfl rfl (by rw [hb]; exact Ref.le_refl _) hk (fun b' e => .inl (by cases e; exact hold))
  have h2 := SRel.turn (w' := { w with heap := w.heap.setIfInBounds b (.map ents' clock') }) hs (n := n) (ρ := .blk b) (y := .imap es') (by simp) rfl rfl rfl (by rw [hb]; exact Ref.le_refl _) hk (fun b' e => .inl (by cases e; exact hold))
    ⟨b, ents', clock', upd_same _ _ _, by simp [hlt], hst, ERel.mono hx hr⟩
  rw [hφ] at h2 hx
  exact ⟨h2, hx⟩

def mapPutA (tt : Nat → Option TI) (σ : Nat → Option AO) (T : Nat) (m k x : AV) : Option (Nat → Option AO) :=
  match mapElem tt T, k with
  | some _, .int .i64 i =>
    match m with
    | .map n => match σ n with
      | some (.imap es) => some (upd σ n (some (.imap (putM i x es))))
      | _ => none
    | _ => none
  | _, _ => none
theorem mapPutA_sound (ht : TTok P tt) {w : World} {φ : Nat → Ref} {σ σ' : Nat → Option AO} (hs : SRel ⟨w, φ, σ⟩) {T : Nat} {m k x : AV} {vm vk v : Value} (h : mapPutA tt σ T m k x = some σ')
    (hm : VRel ⟨w, φ, σ⟩ m vm) (hk : VRel ⟨w, φ, σ⟩ k vk) (hx : VRel ⟨w, φ, σ⟩ x v) : ∃ w', (Instr.mapUpdate T vm vk v).run P w = .ok () w' ∧ SRel ⟨w', φ, σ'⟩ ∧ Ext ⟨w, φ, σ⟩ ⟨w', φ, σ'⟩ := by
  unfold mapPutA at h
  split at h
  · rename_i q i hT
    obtain ⟨K, te⟩ := q
    obtain ⟨e, hu, huk, tes⟩ := mapElem_sound ht hT
    obtain rfl : vk = _ := hk
    split at h
    · rename_i n
      split at h
      · rename_i es hn
        cases h
        obtain ⟨b, hb, rfl⟩ := hm
        replace hb : φ n = .blk b := hb
        obtain ⟨b', ents, clock, q1, q2, q3, q4⟩ := hs.obj n _ hn
        replace q1 : φ n = .blk b' := q1
        replace q2 : w.heap[b']? = some (.map ents clock) := q2
        rw [hb] at q1; cases q1
        have hf := fnd_now i 0 q4
        have hck := checkKey_int huk w false 9999 i
        cases hfx : fnd i es with
        | some q =>
          obtain ⟨j, y⟩ := q
          rw [hfx] at hf
          obtain ⟨en, e1, e2, e3, e4⟩ := hf
          have hj : ents[j]? = some en := by simpa using e1
          have hst := stamps_modify (i := j) (f := fun e => { e with key := .int .i64 i, val := v }) (fun _ => rfl) q3
          have hrel := putM_hit hx q4 hfx
          obtain ⟨r1, r2⟩ := writeMap (ents' := ents.modify j fun e => { e with key := .int .i64 i, val := v }) (clock' := clock) hs hn hb q2 (by simpa using hst) (by simpa using hrel)
          refine ⟨_, ?_, r1, r2⟩
          have hsb : Instr.sameBits 10000 (.int .i64 i) (.int .i64 i) = true := by simp [Instr.sameBits]
          simp [Instr.mapUpdate, run_underlying hu, getObj, Sem.run, q2, hck, Instr.findKey, run_underlying huk, e4, hj, e2, Instr.keyThatStays, hsb, setObj]
        | none =>
          rw [hfx] at hf
          have hst := stamps_push (e := { key := .int .i64 i, val := v, born := clock }) rfl q3
          have hrel := putM_miss (c0 := clock) hx q4 hfx
          obtain ⟨r1, r2⟩ := writeMap (ents' := ents.push { key := .int .i64 i, val := v, born := clock }) (clock' := clock + 1) hs hn hb q2 (by simpa using hst) (by simpa using hrel)
          refine ⟨_, ?_, r1, r2⟩
          simp [Instr.mapUpdate, run_underlying hu, getObj, Sem.run, q2, hck, Instr.findKey, run_underlying huk, hf, setObj]
      · cases h
    · cases h
  · cases h

def mapDelA (tt : Nat → Option TI) (σ : Nat → Option AO) (T : Nat) (m k : AV) : Option (Nat → Option AO) :=
  match mapElem tt T, k with
  | some _, .int .i64 i =>
    match m with
    | .map n => match σ n with
      | some (.imap es) => some (upd σ n (some (.imap (delM i es))))
      | _ => none
    | _ => none
  | _, _ => none
theorem mapDelA_sound (ht : TTok P tt) {w : World} {φ : Nat → Ref} {σ σ' : Nat → Option AO} (hs : SRel ⟨w, φ, σ⟩) {T T2 ty : Nat} {m k : AV} {vm vk : Value} (h : mapDelA tt σ T m k = some σ')
    (hm : VRel ⟨w, φ, σ⟩ m vm) (hk : VRel ⟨w, φ, σ⟩ k vk) : ∃ w', (Builtin.delete_ #[T, T2] ty #[vm, vk]).run P w = .ok (.tuple #[]) w' ∧ SRel ⟨w', φ, σ'⟩ ∧ Ext ⟨w, φ, σ⟩ ⟨w', φ, σ'⟩ := by
  unfold mapDelA at h
  split at h
  · rename_i q i hT
    obtain ⟨K, te⟩ := q
    obtain ⟨e, hu, huk, tes⟩ := mapElem_sound ht hT
    obtain rfl : vk = _ := hk
    split at h
    · rename_i n
      split at h
      · rename_i es hn
        cases h
        obtain ⟨b, hb, rfl⟩ := hm
        replace hb : φ n = .blk b := hb
        obtain ⟨b', ents, clock, q1, q2, q3, q4⟩ := hs.obj n _ hn
        replace q1 : φ n = .blk b' := q1
        replace q2 : w.heap[b']? = some (.map ents clock) := q2
        rw [hb] at q1; cases q1
        have hf := fnd_now i 0 q4
        have hck := checkKey_int huk w (ents.isEmpty) 9999 i
        cases hfx : fnd i es with
        | some q =>
          obtain ⟨j, y⟩ := q
          rw [hfx] at hf
          obtain ⟨en, e1, e2, e3, e4⟩ := hf
          have hjl : j < ents.size := by have := (List.getElem?_eq_some_iff.1 e1).1; simpa using this
          have hst := stamps_erase (i := j) q3
          have hrel := delM_hit q4 hfx
          obtain ⟨r1, r2⟩ := writeMap (ents' := ents.eraseIdxIfInBounds j) (clock' := clock) hs hn hb q2 (by simpa [Array.eraseIdxIfInBounds, hjl] using hst) (by simpa [Array.eraseIdxIfInBounds, hjl] using hrel)
          refine ⟨_, ?_, r1, r2⟩
          simp [Builtin.delete_, run_underlying hu, getObj, Sem.run, q2, hck, Instr.findKey, run_underlying huk, e4, setObj]
        | none =>
          rw [hfx] at hf
          obtain ⟨r1, r2⟩ := writeMap (es' := delM i es) (ents' := ents) (clock' := clock) hs hn hb q2 q3 (by rw [delM_miss hfx]; exact q4)
          refine ⟨_, ?_, r1, r2⟩
          simp [Builtin.delete_, run_underlying hu, getObj, Sem.run, q2, hck, Instr.findKey, run_underlying huk, hf, setObj]
      · cases h
    · cases h
  · cases h

def mapClearA (tt : Nat → Option TI) (σ : Nat → Option AO) (T : Nat) (m : AV) : Option (Nat → Option AO) :=
  match mapElem tt T with
  | some _ =>
    match m with
    | .map n => match σ n with
      | some (.imap es) => some (upd σ n (some (.imap [])))
      | _ => none
    | _ => none
  | _ => none
theorem mapClearA_sound (ht : TTok P tt) {w : World} {φ : Nat → Ref} {σ σ' : Nat → Option AO} (hs : SRel ⟨w, φ, σ⟩) {T ty : Nat} {m : AV} {vm : Value} (h : mapClearA tt σ T m = some σ')
    (hm : VRel ⟨w, φ, σ⟩ m vm) : ∃ w', (Builtin.clear_ #[T] ty #[vm]).run P w = .ok (.tuple #[]) w' ∧ SRel ⟨w', φ, σ'⟩ ∧ Ext ⟨w, φ, σ⟩ ⟨w', φ, σ'⟩ := by
  unfold mapClearA at h
  split at h
  · rename_i q hT
    obtain ⟨K, te⟩ := q
    obtain ⟨e, hu, huk, tes⟩ := mapElem_sound ht hT
    split at h
    · rename_i n
      split at h
      · rename_i es hn
        cases h
        obtain ⟨b, hb, rfl⟩ := hm
        replace hb : φ n = .blk b := hb
        obtain ⟨b', ents, clock, q1, q2, q3, q4⟩ := hs.obj n _ hn
        replace q1 : φ n = .blk b' := q1
        replace q2 : w.heap[b']? = some (.map ents clock) := q2
        rw [hb] at q1; cases q1
        obtain ⟨r1, r2⟩ := writeMap (es' := []) (ents' := #[]) (clock' := clock) hs hn hb q2 ⟨by simp, by simp⟩ rfl
        refine ⟨_, ?_, r1, r2⟩
        simp [Builtin.clear_, run_underlying hu, getObj, Sem.run, q2, setObj]
      · cases h
    · cases h
  · cases h

end Go.Ab
