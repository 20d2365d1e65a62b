/- Ab13: a function's contract out of its body; steps that only the telling takes. -/
import Derived.Test.YtilpklkgmibpgaaAb12
namespace Go.Ab
open Go.RowKit
set_option linter.unusedVariables false
set_option linter.unusedSimpArgs false
variable {P : Program} {tt : Nat → Option TI} {r : Option Nat}

/-! ### What is handed back -/
def cellA (tt : Nat → Option TI) (σ : Nat → Option AO) (T : Nat) : AV → Option AV
  | .ptr n o => match σ n with
    | some (.cells _ cs) => readA tt T (cs.drop o)
    | _ => none
  | _ => none
def resA (tt : Nat → Option TI) (σ : Nat → Option AO) (t : Nat → AV) : List ResultVar → Option (List AV)
  | [] => some []
  | .tmp i :: rs => (resA tt σ t rs).map (t i :: ·)
  | .cell a T :: rs => (cellA tt σ T (t a)).bind fun x => (resA tt σ t rs).map (x :: ·)
def one (xs : List AV) : AV := match xs with
  | [x] => x
  | _ => .tup xs

theorem cellA_sound (ht : TTok P tt) {R : Env} (hs : SRel R) {T : Nat} {p x : AV} {v : Value} (h : cellA tt R.σ T p = some x) (hp : VRel R p v) :
    ∃ u, (do loadVar T (← asAddr v) : Sem Value).run P R.w = .ok u R.w ∧ VRel R x u := by
  unfold cellA at h
  split at h
  · rename_i n o
    obtain ⟨b, h1, rfl⟩ := hp
    split at h
    · rename_i T' cs hn
      obtain ⟨b', vs, k1, k2, k3, k4⟩ := hs.obj n _ hn
      rw [h1] at k1; cases k1
      have := CellsAt.drop o k4
      simp only [Nat.zero_add] at this
      obtain ⟨u, e1, e2⟩ := readA_sound ht h this
      exact ⟨u, by simp [asAddr, e1], e2⟩
    · cases h
  · cases h

theorem resA_list (ht : TTok P tt) {R : Env} (hs : SRel R) {t : Nat → AV} {tmps : Array Value} (hsl : ∀ i, VRel R (t i) (tmps.getD i undef)) : ∀ {rs : List ResultVar} {xs : List AV}, resA tt R.σ t rs = some xs →
    ∃ vs, (rs.mapM (fun q => match q with
      | .tmp t => pure (tmps.getD t undef)
      | .cell a t => do loadVar t (← asAddr (tmps.getD a undef)) : ResultVar → Sem Value)).run P R.w = .ok vs R.w ∧ LRel R xs vs
  | [], xs, h => by cases h; exact ⟨[], by simp, rfl⟩
  | .tmp i :: rs, xs, h => by
    simp only [resA, Option.map_eq_some_iff] at h
    obtain ⟨ys, h1, rfl⟩ := h
    obtain ⟨vs, k1, k2⟩ := resA_list ht hs hsl h1
    refine ⟨tmps.getD i undef :: vs, ?_, _, vs, rfl, hsl i, k2⟩
    simp only [List.mapM_cons, Sem.run_bind, Sem.run_pure, Result.andThen]
    simp only [k1]
  | .cell a T :: rs, xs, h => by
    simp only [resA, Option.bind_eq_some_iff, Option.map_eq_some_iff] at h
    obtain ⟨x, h0, ys, h1, rfl⟩ := h
    obtain ⟨vs, k1, k2⟩ := resA_list ht hs hsl h1
    obtain ⟨u, e1, e2⟩ := cellA_sound ht hs h0 (hsl a)
    refine ⟨u :: vs, ?_, _, vs, rfl, e2, k2⟩
    simp only [List.mapM_cons, Sem.run_bind, Sem.run_pure, Result.andThen] at e1 ⊢
    simp only [e1, k1]

theorem resA_sound (ht : TTok P tt) {R : Env} (hs : SRel R) {t : Nat → AV} {tmps : Array Value} (hsl : ∀ i, VRel R (t i) (tmps.getD i undef)) {fn : Func} {xs : List AV} (h : resA tt R.σ t fn.results.toList = some xs) :
    ∃ v, (results fn tmps).run P R.w = .ok v R.w ∧ VRel R (one xs) v := by
  obtain ⟨vs, k1, k2⟩ := resA_list ht hs hsl h
  refine ⟨if h : vs.toArray.size = 1 then vs.toArray[0] else .tuple vs.toArray, ?_, ?_⟩
  · show (do
      let vs ← fn.results.mapM (fun q => match q with
        | .tmp t => pure (tmps.getD t undef)
        | .cell a t => do loadVar t (← asAddr (tmps.getD a undef)) : ResultVar → Sem Value)
      pure (if h : vs.size = 1 then vs[0] else .tuple vs) : Sem Value).run P R.w = _
    rw [Array.mapM_eq_mapM_toList]
    simp only [Sem.run_bind, Sem.run_map, k1, Sem.run_pure, Result.andThen]
  · match xs, vs, k2 with
    | [x], _, ⟨v, _, rfl, h1, rfl⟩ => simpa [one] using h1
    | [], _, rfl => simp [one, VRel, LRel]
    | x :: y :: xs, _, ⟨v, _, rfl, h1, u, us, rfl, h2, h3⟩ => simp only [one]; exact ⟨_, by simp, v, _, rfl, h1, u, us, rfl, h2, h3⟩

/-- A state with its store turned. -/
def AS.withσ (st : AS) (σ' : Nat → Option AO) (fr' : List Nat) : AS := { st with σ := σ', fr := fr' }
/-- A state that has one more name at hand. -/
def AS.grow (st : AS) : AS := { st with c := st.c + 1, fr := st.c :: st.fr }

/-! ### Steps that only the telling takes -/
theorem Tri.ghost {c : Code} {st : AS} {Q : Exit → AS → Prop} (h : ∀ a w φ, CRel st a w φ → ∃ st' φ', Tri r P c st' Q ∧ CRel st' a w φ' ∧ Evo st w φ st' w φ') : Tri r P c st Q := by
  intro a w φ hr
  obtain ⟨st', φ', h1, h2, h3⟩ := h a w φ hr
  exact wpIn_mono (h1 a w φ' h2) fun e a2 w2 ⟨st2, φ2, k1, k2, k3⟩ => ⟨st2, φ2, k1, k2, h3.trans k3⟩

def Gh (st st' : AS) : Prop := ∀ a w φ, CRel st a w φ → ∃ φ', CRel st' a w φ' ∧ Evo st w φ st' w φ'
theorem Gh.refl (st : AS) : Gh st st := fun a w φ hr => ⟨φ, hr, Evo.refl _ _ _⟩
theorem Gh.trans {a b c : AS} (h : Gh a b) (k : Gh b c) : Gh a c := fun x w φ hr => by
  obtain ⟨φ1, h1, h2⟩ := h x w φ hr
  obtain ⟨φ2, k1, k2⟩ := k x w φ1 h1
  exact ⟨φ2, k1, h2.trans k2⟩
theorem Tri.gh {c : Code} {st st' : AS} {Q : Exit → AS → Prop} (hg : Gh st st') (h : Tri r P c st' Q) : Tri r P c st Q :=
  Tri.ghost fun a w φ hr => by
    obtain ⟨φ', h1, h2⟩ := hg a w φ hr
    exact ⟨st', φ', h, h1, h2⟩

/-- A new name is at hand. -/
theorem Tri.fresh {c : Code} {st : AS} {Q : Exit → AS → Prop} (h : Tri r P c st.grow Q) : Tri r P c st Q :=
  Tri.ghost fun a w φ hr => ⟨_, φ, h, ⟨hr.slot, hr.size, hr.defers, hr.store, fun n hn => hr.fresh n (Nat.le_of_succ_le hn), fun n hn => by
      rcases List.mem_cons.1 hn with rfl | hn
      · exact ⟨Nat.lt_succ_self _, hr.fresh _ (Nat.le_refl _)⟩
      · exact ⟨Nat.lt_succ_of_lt (hr.free n hn).1, (hr.free n hn).2⟩⟩,
    ⟨Ext.refl _, Nat.le_succ _, fun n hn hl => by
      rcases List.mem_cons.1 hn with rfl | hn
      · exact absurd hl (Nat.lt_irrefl _)
      · exact hn, fun _ _ _ e => e⟩⟩

/-- What every state keeps. -/
structure Facts (st : AS) : Prop where
  t : ∀ i, (st.t i).lt st.c
  σ : ∀ n o, st.σ n = some o → n < st.c ∧ o.lt st.c
  good : Good st
  fr : ∀ n, n ∈ st.fr → n < st.c
theorem CRel.facts {st : AS} {a : Act} {w : World} {φ : Nat → Ref} (h : CRel st a w φ) : Facts st :=
  ⟨fun i => VRel.lt h.fresh _ _ (h.slot i), fun n o hn => ⟨set_lt h.fresh (ORel.set (h.store.obj n o hn)), ORel.ltc h.fresh (h.store.obj n o hn)⟩, h.good, fun n hn => (h.free n hn).1⟩
theorem Tri.facts {c : Code} {st : AS} {Q : Exit → AS → Prop} (h : Facts st → Tri r P c st Q) : Tri r P c st Q :=
  fun a w φ hr => h hr.facts a w φ hr

/-- What is told of a slot may be told otherwise. -/
theorem Tri.forget {c : Code} {st : AS} {Q : Exit → AS → Prop} (t' : Nat → AV) (ht : ∀ i, t' i = st.t i ∨ t' i = .junk) (h : Tri r P c { st with t := t' } Q) : Tri r P c st Q :=
  Tri.ghost fun a w φ hr => ⟨_, φ, h, ⟨fun i => by
    rcases ht i with e | e
    · show VRel _ (t' i) _; rw [e]; exact hr.slot i
    · show VRel _ (t' i) _; rw [e]; trivial, hr.size, hr.defers, hr.store, hr.fresh, hr.free⟩, ⟨Ext.refl _, Nat.le_refl _, fun _ e _ => e, fun _ _ _ e => e⟩⟩

/-- A slice of a name is told by value. -/
def Frz (n g : Nat) (rows : List (List AV)) (x y : AV) : Prop := y = x ∨ ∃ len, x = .os n g len ∧ len ≤ rows.length ∧ y = .sl (rows.take len)
def FrzO (n g : Nat) (rows : List (List AV)) (x y : Option AO) : Prop := y = x ∨ ∃ (T : Nat) (cs cs' : List AV), x = some (.cells T cs) ∧ y = some (.cells T cs') ∧ cs'.length = cs.length ∧ ∀ (i : Nat) (a b : AV), cs[i]? = some a → cs'[i]? = some b → Frz n g rows a b

theorem Frz.rel {w : World} {φ : Nat → Ref} {σ σ' : Nat → Option AO} {n g T e : Nat} {rows : List (List AV)} {x y : AV} {v : Value} (hs : SRel ⟨w, φ, σ⟩) (hn : σ n = some (.arr T e g rows)) (hx : Ext ⟨w, φ, σ⟩ ⟨w, φ, σ'⟩) (hown : ∀ b, Env.own ⟨w, φ, σ'⟩ b → ∃ m o, m ≠ n ∧ σ m = some o ∧ (φ m).at = some b)
    (h : Frz n g rows x y) (hv : VRel ⟨w, φ, σ⟩ x v) : VRel ⟨w, φ, σ'⟩ y v := by
  rcases h with rfl | ⟨len, rfl, hl, rfl⟩
  · exact VRel.mono hx _ _ hv
  · obtain ⟨a, c, rfl, r, g', h1, h2, h3⟩ := hv
    replace h1 : φ n = .arr r g' := h1
    have hlen : (rows.take len).length = len := by simp; omega
    rcases hs.obj n _ hn with ⟨q1, q2⟩ | ⟨b, c', cur, q1, q2, q3, q4, q5, q6⟩
    · replace q1 : φ n = .arr none g := q1
      subst q2
      rw [h1] at q1; cases q1
      obtain rfl : len = 0 := by simpa using hl
      rcases h3 rfl with ⟨_, _, rfl, rfl⟩ | ⟨b, e, _⟩
      · exact ⟨none, 0, by simp, by simp, .inl ⟨by simp, fun _ => rfl⟩⟩
      · cases e
    · replace q1 : φ n = .arr (some (b, c')) g := q1
      rw [h1] at q1; cases q1
      rcases h3 rfl with ⟨e, _⟩ | ⟨b', e, hlc, rfl⟩
      · cases e
      · cases e
        have hb : b < w.heap.size := hs.own_lt ⟨n, _, hn, by simp [h1, Ref.at]⟩
        refine ⟨_, c, by rw [hlen], by rw [hlen]; exact hlc, .inr ⟨b, 0, e, rfl, hb, ?_, RowsAt.take len (RowsAt.mono hx rfl _ _ q6)⟩⟩
        intro ho
        obtain ⟨m, o, hm, k1, k2⟩ := hown b ho
        exact hm (hs.inj m n o _ b k1 hn k2 (by simp [h1, Ref.at]))

theorem Gh.freeze {st : AS} {n g T e : Nat} {rows : List (List AV)} (hn : st.σ n = some (.arr T e g rows)) (t' : Nat → AV) (σ' : Nat → Option AO)
    (hσn : σ' n = none) (ht : ∀ i, Frz n g rows (st.t i) (t' i)) (hσ : ∀ m, m ≠ n → FrzO n g rows (st.σ m) (σ' m)) : Gh st { st with t := t', σ := σ' } :=
  fun a w φ hr => by
    have some_of : ∀ m o, σ' m = some o → m ≠ n ∧ ∃ o', st.σ m = some o' := fun m o hm => by
      have hne : m ≠ n := by rintro rfl; rw [hσn] at hm; cases hm
      refine ⟨hne, ?_⟩
      rcases hσ m hne with e | ⟨T, cs, cs', e, _⟩
      · exact ⟨o, by rw [← e]; exact hm⟩
      · exact ⟨_, e⟩
    have hown : ∀ b, Env.own ⟨w, φ, σ'⟩ b → ∃ m o, m ≠ n ∧ st.σ m = some o ∧ (φ m).at = some b := fun b ⟨m, o, h1, h2⟩ => by
      obtain ⟨k1, o', k2⟩ := some_of m o h1
      exact ⟨m, o', k1, k2, h2⟩
    have hx : Ext ⟨w, φ, st.σ⟩ ⟨w, φ, σ'⟩ := ⟨rfl, rfl, rfl, Nat.le_refl _, fun _ => Ref.le_refl _, fun b _ ho => ⟨rfl, fun ho' => by
      obtain ⟨m, o, _, k1, k2⟩ := hown b ho'
      exact ho ⟨m, o, k1, k2⟩⟩⟩
    have hv : ∀ {x y : AV} {v : Value}, Frz n g rows x y → VRel ⟨w, φ, st.σ⟩ x v → VRel ⟨w, φ, σ'⟩ y v := fun hf hv => hf.rel hr.store hn hx hown hv
    refine ⟨φ, ⟨fun i => hv (ht i) (hr.slot i), hr.size, hr.defers, ⟨fun m o hm => ?_, fun m m' o o' b h1 h2 h3 h4 => ?_⟩, hr.fresh, hr.free⟩, ⟨hx, Nat.le_refl _, fun _ e _ => e, fun _ _ _ e => e⟩⟩
    · obtain ⟨hne, _⟩ := some_of m o hm
      rcases hσ m hne with e | ⟨T', cs, cs', e1, e2, e3, e4⟩
      · exact (hr.store.obj m o (e.symm.trans hm)).mono hx rfl fun _ _ => rfl
      · replace hm : σ' m = some o := hm
        rw [e2] at hm; cases hm
        obtain ⟨b, vs, k1, k2, k3, k4⟩ := hr.store.obj m _ e1
        refine ⟨b, vs, k1, k2, by rw [e3]; exact k3, CellsAt.of_get fun i y hy => ?_⟩
        have hlt : i < cs.length := by rw [← e3]; exact (List.getElem?_eq_some_iff.1 hy).1
        obtain ⟨v, q1, q2⟩ := CellsAt.get i k4 (List.getElem?_eq_getElem hlt)
        exact ⟨v, q1, hv (e4 i _ _ (List.getElem?_eq_getElem hlt) hy) q2⟩
    · obtain ⟨_, q, k1⟩ := some_of m o h1
      obtain ⟨_, q', k2⟩ := some_of m' o' h2
      exact hr.store.inj m m' q q' b k1 k2 h3 h4

/-- A slice that is nil is told as an array that may grow. -/
theorem Gh.nilName {st : AS} {n i : Nat} (T e : Nat) (hn : n ∈ st.fr) (hi : st.t i = .nils) : Gh st ((st.withσ (upd st.σ n (some (.arr T e 0 []))) (st.fr.filter fun m => m != n)).put (some i) (.os n 0 0)) :=
  fun a w φ hr => by
    obtain ⟨hc, hu⟩ := hr.free n hn
    have hle : (φ n).le (.arr none 0) := by rw [hu]; trivial
    have hx : Ext ⟨w, φ, st.σ⟩ ⟨w, upd φ n (.arr none 0), upd st.σ n (some (.arr T e 0 []))⟩ := Ext.turn _ (Nat.le_refl _) rfl rfl rfl hle (fun _ _ _ => rfl) (by simp [Ref.at])
    have hs := SRel.turn (w' := w) (n := n) (ρ := .arr none 0) (y := .arr T e 0 []) hr.store (Nat.le_refl _) rfl rfl rfl hle (fun _ _ _ => rfl) (by simp [Ref.at]) (.inl ⟨upd_same _ _ _, rfl⟩)
    refine ⟨upd φ n (.arr none 0), ⟨fun j => ?_, hr.size, marks.mono hx hr.defers, hs, fun m hm => ?_, fun m hm => ?_⟩, ⟨hx, Nat.le_refl _, fun m hm _ => (List.mem_filter.1 hm).1, fun m hm hf e => ?_⟩⟩
    · by_cases e : j = i
      · subst e
        show VRel _ (upd st.t j _ j) _
        rw [upd_same]
        have := hr.slot j
        rw [hi] at this
        have this : a.tmps.getD j undef = .slice none 0 0 := this
        rw [this]
        exact ⟨none, 0, rfl, none, 0, upd_same _ _ _, Nat.le_refl _, fun _ => .inl ⟨rfl, rfl, rfl, rfl⟩⟩
      · show VRel _ (upd st.t i _ j) _
        rw [upd_ne _ _ e]
        exact VRel.mono hx _ _ (hr.slot j)
    · have hm' : st.c ≤ m := hm
      have : m ≠ n := by omega
      rw [upd_ne _ _ this]; exact hr.fresh m hm
    · replace hm : m ∈ st.fr.filter fun m => m != n := hm
      simp only [List.mem_filter, bne_iff_ne, ne_eq] at hm
      rw [upd_ne _ _ hm.2]
      exact hr.free m hm.1
    · rw [upd_ne _ _ (fun e' => hf (by rw [e']; exact hn))]; exact e

/-- An empty slice is nil, or it is not. -/
theorem Tri.slCase {c : Code} {st : AS} {Q : Exit → AS → Prop} {i : Nat} (hi : st.t i = .sl []) (h1 : Tri r P c (st.put (some i) .nils) Q) (h2 : Tri r P c (st.put (some i) .sle) Q) : Tri r P c st Q := by
  refine Tri.ghost fun a w φ hr => ?_
  have hv := hr.slot i
  rw [hi] at hv
  obtain ⟨b, cc, e, hle, h3⟩ := hv
  have key : ∀ y, VRel ⟨w, φ, st.σ⟩ y (a.tmps.getD i undef) → CRel { st with t := upd st.t i y } a w φ := fun y hy => ⟨fun j => by
    by_cases e : j = i
    · subst e; show VRel _ (upd st.t j y j) _; rw [upd_same]; exact hy
    · show VRel _ (upd st.t i y j) _; rw [upd_ne _ _ e]; exact hr.slot j, hr.size, hr.defers, hr.store, hr.fresh, hr.free⟩
  cases b with
  | none =>
    have h0 : cc = 0 := by
      rcases h3 with ⟨_, h3⟩ | ⟨_, _, _, h3, _⟩
      · exact h3 rfl
      · cases h3
    subst h0
    exact ⟨_, φ, h1, key .nils e, ⟨Ext.refl _, Nat.le_refl _, fun _ e _ => e, fun _ _ _ e => e⟩⟩
  | some b => exact ⟨_, φ, h2, key .sle ⟨b, cc, e⟩, ⟨Ext.refl _, Nat.le_refl _, fun _ e _ => e, fun _ _ _ e => e⟩⟩

/-- .. of an array that has a name. -/
theorem Tri.osCase {c : Code} {st : AS} {Q : Exit → AS → Prop} {i n g T e : Nat} {rows : List (List AV)} (hi : st.t i = .os n g 0) (hn : st.σ n = some (.arr T e g rows)) (h1 : Tri r P c (st.put (some i) .nils) Q) (h2 : Tri r P c (st.put (some i) .sle) Q) : Tri r P c st Q := by
  refine Tri.ghost fun a w φ hr => ?_
  have hv := hr.slot i
  rw [hi] at hv
  obtain ⟨b, cc, e, rr, g', f1, f2, f3⟩ := hv
  replace f1 : φ n = .arr rr g' := f1
  have hgg : g = g' := by
    rcases hr.store.obj n _ hn with ⟨k, _⟩ | ⟨_, _, _, k, _⟩ <;> (replace k : φ n = _ := k; rw [f1] at k; cases k; rfl)
  have key : ∀ y, VRel ⟨w, φ, st.σ⟩ y (a.tmps.getD i undef) → CRel (st.put (some i) y) a w φ := fun y hy => ⟨fun j => by
    by_cases e : j = i
    · subst e; show VRel _ (upd st.t j y j) _; rw [upd_same]; exact hy
    · show VRel _ (upd st.t i y j) _; rw [upd_ne _ _ e]; exact hr.slot j, hr.size, hr.defers, hr.store, hr.fresh, hr.free⟩
  rcases f3 hgg with ⟨_, _, rfl, rfl⟩ | ⟨b', _, _, rfl⟩
  · exact ⟨_, φ, h1, key .nils e, ⟨Ext.refl _, Nat.le_refl _, fun _ e _ => e, fun _ _ _ e => e⟩⟩
  · exact ⟨_, φ, h2, key .sle ⟨_, cc, e⟩, ⟨Ext.refl _, Nat.le_refl _, fun _ e _ => e, fun _ _ _ e => e⟩⟩

/-! ### What is told may be told less exactly -/
def Wk (x y : AV) : Prop := ∀ R v, VRel R x v → VRel R y v
theorem Wk.refl (x : AV) : Wk x x := fun _ _ h => h
theorem Wk.junk (x : AV) : Wk x .junk := fun _ _ _ => trivial
theorem Wk.nils : Wk .nils (.sl []) := fun _ v h => ⟨none, 0, h, Nat.le_refl _, .inl ⟨rfl, fun _ => rfl⟩⟩
theorem Wk.sle : Wk .sle (.sl []) := fun _ v ⟨a, c, h⟩ => ⟨some a, c, h, Nat.zero_le _, .inl ⟨rfl, fun e => by cases e⟩⟩
def WkL : List AV → List AV → Prop
  | [], [] => True
  | x :: xs, y :: ys => Wk x y ∧ WkL xs ys
  | _, _ => False
theorem WkL.refl : ∀ (xs : List AV), WkL xs xs
  | [] => trivial
  | x :: xs => ⟨Wk.refl x, WkL.refl xs⟩
theorem WkL.length : ∀ {xs ys : List AV}, WkL xs ys → ys.length = xs.length
  | [], [], _ => rfl
  | x :: xs, y :: ys, h => by simp [WkL.length h.2]
theorem WkL.cells {R : Env} {b : Nat} : ∀ {xs ys : List AV} {off : Nat}, WkL xs ys → CellsAt R b off xs → CellsAt R b off ys
  | [], [], _, _, _ => trivial
  | x :: xs, y :: ys, off, h, hc => by obtain ⟨⟨v, h1, h2⟩, h3⟩ := hc; exact ⟨⟨v, h1, h.1 R v h2⟩, WkL.cells h.2 h3⟩

theorem Gh.wkT {st : AS} (i : Nat) (y : AV) (hw : Wk (st.t i) y) : Gh st (st.put (some i) y) :=
  fun a w φ hr => ⟨φ, ⟨fun j => by
    by_cases e : j = i
    · subst e; show VRel _ (upd st.t j y j) _; rw [upd_same]; exact hw _ _ (hr.slot j)
    · show VRel _ (upd st.t i y j) _; rw [upd_ne _ _ e]; exact hr.slot j, hr.size, hr.defers, hr.store, hr.fresh, hr.free⟩, ⟨Ext.refl _, Nat.le_refl _, fun _ e _ => e, fun _ _ _ e => e⟩⟩
theorem Gh.wkO {st : AS} {n T : Nat} {cs cs' : List AV} (hn : st.σ n = some (.cells T cs)) (hw : WkL cs cs') : Gh st (st.withσ (upd st.σ n (some (.cells T cs'))) st.fr) :=
  fun a w φ hr => by
    obtain ⟨b, vs, k1, k2, k3, k4⟩ := hr.store.obj n _ hn
    replace k1 : φ n = .blk b := k1
    have hφ : upd φ n (.blk b) = φ := upd_self φ n k1
    have hold : oldAt φ st.σ n = some b := by simp [oldAt, hn, k1, Ref.at]
    have hx := Ext.turn (w := w) (w' := w) (φ := φ) (σ := st.σ) (n := n) (ρ := .blk b) (.cells T cs') (Nat.le_refl _) rfl rfl rfl (by rw [k1]; rfl) (fun _ _ _ => rfl) (fun b' e => .inl (by cases e; exact hold))
    have hs := SRel.turn (w' := w) hr.store (n := n) (ρ := .blk b) (y := .cells T cs') (Nat.le_refl _) rfl rfl rfl (by rw [k1]; rfl) (fun _ _ _ => rfl) (fun b' e => .inl (by cases e; exact hold))
      ⟨b, vs, upd_same _ _ _, k2, by rw [hw.length]; exact k3, CellsAt.mono hx rfl _ _ (hw.cells k4)⟩
    rw [hφ] at hs hx
    exact ⟨φ, ⟨fun j => VRel.mono hx _ _ (hr.slot j), hr.size, hr.defers, hs, hr.fresh, hr.free⟩, ⟨hx, Nat.le_refl _, fun _ e _ => e, fun _ _ _ e => e⟩⟩

theorem Tri.freeze {c : Code} {st : AS} {Q : Exit → AS → Prop} {n g T e : Nat} {rows : List (List AV)} (hn : st.σ n = some (.arr T e g rows)) (t' : Nat → AV) (σ' : Nat → Option AO) (h : Tri r P c { st with t := t', σ := σ' } Q)
    (hσn : σ' n = none) (ht : ∀ i, Frz n g rows (st.t i) (t' i)) (hσ : ∀ m, m ≠ n → FrzO n g rows (st.σ m) (σ' m)) : Tri r P c st Q := Tri.gh (Gh.freeze hn t' σ' hσn ht hσ) h
theorem Tri.nilName {c : Code} {st : AS} {Q : Exit → AS → Prop} {n i : Nat} (T e : Nat) (hn : n ∈ st.fr) (hi : st.t i = .nils)
    (h : Tri r P c ((st.withσ (upd st.σ n (some (.arr T e 0 []))) (st.fr.filter fun m => m != n)).put (some i) (.os n 0 0)) Q) : Tri r P c st Q := Tri.gh (Gh.nilName T e hn hi) h
theorem Tri.wkT {c : Code} {st : AS} {Q : Exit → AS → Prop} (i : Nat) (y : AV) (hw : Wk (st.t i) y) (h : Tri r P c (st.put (some i) y) Q) : Tri r P c st Q := Tri.gh (Gh.wkT i y hw) h
theorem Tri.wkO {c : Code} {st : AS} {Q : Exit → AS → Prop} {n T : Nat} {cs cs' : List AV} (hn : st.σ n = some (.cells T cs)) (hw : WkL cs cs') (h : Tri r P c (st.withσ (upd st.σ n (some (.cells T cs'))) st.fr) Q) : Tri r P c st Q := Tri.gh (Gh.wkO hn hw) h

/-- A nil slice in a cell of an object is told as an array that may grow. -/
theorem Gh.nilO {st : AS} {n m k T' : Nat} {cs : List AV} (T e : Nat) (hn : n ∈ st.fr) (hm : st.σ m = some (.cells T' cs)) (hk : cs[k]? = some .nils) :
    Gh st (st.withσ (upd (upd st.σ n (some (.arr T e 0 []))) m (some (.cells T' (cs.set k (.os n 0 0))))) (st.fr.filter fun x => x != n)) := fun a w φ hr => by
  obtain ⟨hc, hu⟩ := hr.free n hn
  have hσn : st.σ n = none := hr.good.1 n hn
  have hmn : m ≠ n := by rintro rfl; rw [hσn] at hm; cases hm
  have hle : (φ n).le (.arr none 0) := by rw [hu]; trivial
  have hx1 : Ext ⟨w, φ, st.σ⟩ ⟨w, upd φ n (.arr none 0), upd st.σ n (some (.arr T e 0 []))⟩ := Ext.turn _ (Nat.le_refl _) rfl rfl rfl hle (fun _ _ _ => rfl) (by simp [Ref.at])
  have hs1 := SRel.turn (w' := w) (n := n) (ρ := .arr none 0) (y := .arr T e 0 []) hr.store (Nat.le_refl _) rfl rfl rfl hle (fun _ _ _ => rfl) (by simp [Ref.at]) (.inl ⟨upd_same _ _ _, rfl⟩)
  have hm1 : upd st.σ n (some (.arr T e 0 [])) m = some (.cells T' cs) := by rw [upd_ne _ _ hmn]; exact hm
  obtain ⟨b, vs, k1, k2, k3, k4⟩ := hs1.obj m _ hm1
  replace k1 : upd φ n (.arr none 0) m = .blk b := k1
  have hφ : upd (upd φ n (.arr none 0)) m (.blk b) = upd φ n (.arr none 0) := upd_self _ m k1
  have hold : oldAt (upd φ n (.arr none 0)) (upd st.σ n (some (.arr T e 0 []))) m = some b := by simp [oldAt, hm1, k1, Ref.at]
  have hx2 := Ext.turn (w := w) (w' := w) (φ := upd φ n (.arr none 0)) (σ := upd st.σ n (some (.arr T e 0 []))) (n := m) (ρ := .blk b) (.cells T' (cs.set k (.os n 0 0))) (Nat.le_refl _) rfl rfl rfl (by rw [k1]; rfl) (fun _ _ _ => rfl) (fun b' e => .inl (by cases e; exact hold))
  have hs2 := SRel.turn (w' := w) hs1 (n := m) (ρ := .blk b) (y := .cells T' (cs.set k (.os n 0 0))) (Nat.le_refl _) rfl rfl rfl (by rw [k1]; rfl) (fun _ _ _ => rfl) (fun b' e => .inl (by cases e; exact hold))
    ⟨b, vs, upd_same _ _ _, k2, by simpa using k3, CellsAt.of_get fun i x hi => by
      rw [List.getElem?_set] at hi
      split at hi
      · rename_i hki
        subst hki
        split at hi
        · cases hi
          obtain ⟨v, q1, q2⟩ := CellsAt.get _ k4 hk
          have q2 : v = .slice none 0 0 := q2
          subst q2
          refine ⟨_, q1, none, 0, rfl, none, 0, ?_, Nat.le_refl _, fun _ => .inl ⟨rfl, rfl, rfl, rfl⟩⟩
          show upd (upd φ n (.arr none 0)) m (.blk b) n = _
          rw [hφ, upd_same]
        · cases hi
      · obtain ⟨v, q1, q2⟩ := CellsAt.get i k4 hi
        exact ⟨v, q1, VRel.mono hx2 _ _ q2⟩⟩
  rw [hφ] at hs2 hx2
  have hx := hx1.trans hx2
  refine ⟨upd φ n (.arr none 0), ⟨fun j => VRel.mono hx _ _ (hr.slot j), hr.size, marks.mono hx hr.defers, hs2, fun x hx' => ?_, fun x hx' => ?_⟩, ⟨hx, Nat.le_refl _, fun x hx' _ => (List.mem_filter.1 hx').1, fun x hx' hf e => ?_⟩⟩
  · have hm' : st.c ≤ x := hx'
    have : x ≠ n := by omega
    rw [upd_ne _ _ this]; exact hr.fresh x hx'
  · replace hx' : x ∈ st.fr.filter fun x => x != n := hx'
    simp only [List.mem_filter, bne_iff_ne, ne_eq] at hx'
    rw [upd_ne _ _ hx'.2]
    exact hr.free x hx'.1
  · rw [upd_ne _ _ (fun e' => hf (by rw [e']; exact hn))]; exact e

/-! ### A function -/
def cutσ (c : Nat) (σ : Nat → Option AO) : Nat → Option AO := fun n => if n < c then σ n else none
theorem cutσ_new {c k : Nat} {x : Option AO} (σ : Nat → Option AO) (h : c ≤ k) : cutσ c (upd σ k x) = cutσ c σ := by
  funext n
  simp only [cutσ]
  split
  · rw [upd_ne _ _ (by omega)]
  · rfl
theorem cutσ_old {c k : Nat} {x : Option AO} (σ : Nat → Option AO) (h : k < c) : cutσ c (upd σ k x) = upd (cutσ c σ) k x := by
  funext n
  by_cases e : n = k
  · subst e; simp [cutσ, upd, h]
  · simp [cutσ, upd, e]
theorem cutσ_self {c : Nat} {σ : Nat → Option AO} (h : ∀ n, c ≤ n → σ n = none) : cutσ c σ = σ := by
  funext n
  simp only [cutσ]
  split
  · rfl
  · rw [h n (by omega)]

/-- What was made in a call is named by nothing that stays. -/
def Stays (c : Nat) (σ0 σ : Nat → Option AO) : Prop := ∀ n o, n < c → σ n = some o → σ0 n = some o ∨ o.lt c
theorem Stays.refl (c : Nat) (σ : Nat → Option AO) : Stays c σ σ := fun _ _ _ h => .inl h
theorem Stays.new {c k : Nat} {σ0 σ : Nat → Option AO} {x : Option AO} (h : c ≤ k) (hs : Stays c σ0 σ) : Stays c σ0 (upd σ k x) := fun n o hn h1 => by
  rw [upd_ne _ _ (by omega)] at h1; exact hs n o hn h1
theorem Stays.old {c k : Nat} {σ0 σ : Nat → Option AO} {x : AO} (h : x.lt c) (hs : Stays c σ0 σ) : Stays c σ0 (upd σ k (some x)) := fun n o hn h1 => by
  by_cases e : n = k
  · subst e; rw [upd_same] at h1; cases h1; exact .inr h
  · rw [upd_ne _ _ e] at h1; exact hs n o hn h1
theorem Stays.none {c k : Nat} {σ0 σ : Nat → Option AO} (hs : Stays c σ0 σ) : Stays c σ0 (upd σ k none) := fun n o hn h1 => by
  by_cases e : n = k
  · subst e; rw [upd_same] at h1; cases h1
  · rw [upd_ne _ _ e] at h1; exact hs n o hn h1

def startA (args : List AV) (σ : Nat → Option AO) (c : Nat) (Ns : List Nat) (m : Nat) : AS := { t := fun i => args.getD i .junk, σ := σ, c := c, fr := Ns, m := m, ds := [] }

/-- What a function's body comes to. -/
def fnPost0 (tt : Nat → Option TI) (fn : Func) (c : Nat) (σ : Nat → Option AO) (Q : AV → (Nat → Option AO) → Prop) : Exit → AS → Prop := fun e s => (e = .normal ∨ e = .ret) ∧ s.ds = [] ∧
  ∃ xs, resA tt s.σ s.t fn.results.toList = some xs ∧ (one xs).lt c ∧ Stays c σ s.σ ∧ Q (one xs) (cutσ c s.σ)
/-- .. where the telling takes its last steps. -/
def fnPost (tt : Nat → Option TI) (fn : Func) (c : Nat) (σ : Nat → Option AO) (Q : AV → (Nat → Option AO) → Prop) : Exit → AS → Prop := fun e s => ∃ s', Gh s s' ∧ fnPost0 tt fn c σ Q e s'
theorem fnPost.gh {fn : Func} {c : Nat} {σ : Nat → Option AO} {Q : AV → (Nat → Option AO) → Prop} {e : Exit} {s s' : AS} (hg : Gh s s') (h : fnPost tt fn c σ Q e s') : fnPost tt fn c σ Q e s := by
  obtain ⟨s2, h1, h2⟩ := h
  exact ⟨s2, hg.trans h1, h2⟩
theorem fnPost.tmp {fn : Func} {c : Nat} {σ : Nat → Option AO} {Q : AV → (Nat → Option AO) → Prop} {e : Exit} {s : AS} {i : Nat} {x : AV} (he : e = .normal ∨ e = .ret) (hres : fn.results = #[.tmp i]) (hds : s.ds = []) (hx : s.ev (.tmp i) = x) (hlt : x.lt c) (hst : Stays c σ s.σ)
    (hQ : Q x (cutσ c s.σ)) : fnPost tt fn c σ Q e s := ⟨s, Gh.refl _, he, hds, [x], by rw [hres]; show resA tt s.σ s.t [.tmp i] = _; simp only [resA, Option.map]; rw [← hx]; rfl, hlt, hst, hQ⟩
theorem fnPost.none {fn : Func} {c : Nat} {σ : Nat → Option AO} {Q : AV → (Nat → Option AO) → Prop} {e : Exit} {s : AS} (he : e = .normal ∨ e = .ret) (hres : fn.results = #[]) (hds : s.ds = []) (hst : Stays c σ s.σ)
    (hQ : Q (.tup []) (cutσ c s.σ)) : fnPost tt fn c σ Q e s := ⟨s, Gh.refl _, he, hds, [], by rw [hres]; rfl, trivial, hst, hQ⟩

theorem CallA.of (ht : TTok P tt) {f : FuncId} {fn : Func} {code : Code} {args : List AV} {σ : Nat → Option AO} {Ns : List Nat} {Q : AV → (Nat → Option AO) → Prop} (hf : P.funcs[f]? = some fn) (hb : fn.body = some code) (hl : args.length ≤ fn.ntmps)
    (h : ∀ c, Facts (startA args σ c Ns fn.ntmps) → Tri none P code (startA args σ c Ns fn.ntmps) (fnPost tt fn c σ Q)) : CallA P f args σ Ns Q := by
  intro c w φ vs hvs hs hfresh hNs
  have hr : CRel (startA args σ c Ns fn.ntmps) { tmps := vs.toArray ++ Array.replicate (fn.ntmps - vs.toArray.size) undef, defers := [] } w φ := by
    refine ⟨fun i => ?_, ?_, rfl, hs, hfresh, hNs⟩
    · show VRel _ (args.getD i .junk) _
      by_cases hi : i < args.length
      · obtain ⟨v, k1, k2⟩ := LRel.get i hvs (List.getElem?_eq_getElem hi)
        have hi' : i < vs.length := by rw [hvs.length]; exact hi
        have : (vs.toArray ++ Array.replicate (fn.ntmps - vs.toArray.size) undef).getD i undef = v := by
          rw [Array.getD_eq_getD_getElem?, Array.getElem?_append_left (by simpa using hi')]
          simp [k1]
        rw [this, List.getD_eq_getElem?_getD, List.getElem?_eq_getElem hi]
        exact k2
      · rw [List.getD_eq_getElem?_getD, List.getElem?_eq_none (by omega)]; trivial
    · simp only [startA, Array.size_append, List.size_toArray, Array.size_replicate, hvs.length]; omega
  refine callsIn_of_wp (F := Fence.wide) hf hb trivial ?_
  refine wpIn_mono (h c hr.facts _ w φ hr) ?_
  rintro e a1 w1 ⟨s0, φ0, ⟨s, hgh, he, hds, xs, hres, hlt, hst, hQ⟩, hr0, hevo0⟩
  obtain ⟨φ1, hr1, hev⟩ := hgh _ _ _ hr0
  have hevo := hevo0.trans hev
  have hd : a1.defers = [] := by have := hr1.defers; rw [hds] at this; exact this
  obtain ⟨v, hv1, hv2⟩ := resA_sound (fn := fn) ht hr1.store hr1.slot hres
  have hcut := cut_all (R0 := ⟨w, φ, σ⟩) (σ' := cutσ c s.σ) hfresh hs hevo.ext hr1.store (fun n o hn => by
    simp only [cutσ] at hn
    split at hn
    · rename_i hlt; exact ⟨hlt, hn, hst n o hlt hn⟩
    · cases hn) hlt hv2
  obtain ⟨c1, c2, c3, c4⟩ := hcut
  have hun : ∀ n, n < c → n ∉ Ns → φ n = .unset → cutφ c φ1 n = .unset := fun n h1 h2 h3 => by rw [cutφ_lt _ h1]; exact hevo.unset n h1 h2 h3
  rcases he with rfl | rfl
  · exact ⟨hd, v, hv1, v, _, _, _, rfl, c1, hQ, c2, c3, hun, c4⟩
  · exact ⟨hd, v, hv1, v, _, _, _, rfl, c1, hQ, c2, c3, hun, c4⟩

end Go.Ab
