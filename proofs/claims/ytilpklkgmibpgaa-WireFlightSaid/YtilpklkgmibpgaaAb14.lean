/- Ab14: rules in the form in which walks use them. -/
import Derived.Test.YtilpklkgmibpgaaAb13
import Derived.Laws.BitsLemmas
namespace Go.Ab
open Go.RowKit
set_option linter.unusedVariables false
set_option linter.unusedSimpArgs false
variable {P : Program} {tt : Nat → Option TI} {r : Option Nat}

theorem ev_put_same {st : AS} {d : Nat} {x : AV} : (st.put (some d) x).ev (.tmp d) = x := upd_same _ _ _
theorem ev_put_ne {st : AS} {d i : Nat} {x : AV} (h : i ≠ d) : (st.put (some d) x).ev (.tmp i) = st.ev (.tmp i) := upd_ne _ _ h
theorem put_none {st : AS} {x : AV} : st.put none x = st := rfl
theorem t_put_same {st : AS} {d : Nat} {x : AV} : (st.put (some d) x).t d = x := upd_same _ _ _
theorem t_put_ne {st : AS} {d i : Nat} {x : AV} (h : i ≠ d) : (st.put (some d) x).t i = st.t i := upd_ne _ _ h
theorem σ_put {st : AS} {d : Option Tmp} {x : AV} : (st.put d x).σ = st.σ := put_σ
theorem fr_put {st : AS} {d : Option Tmp} {x : AV} : (st.put d x).fr = st.fr := put_fr
theorem c_put {st : AS} {d : Option Tmp} {x : AV} : (st.put d x).c = st.c := put_c
theorem ds_put {st : AS} {d : Option Tmp} {x : AV} : (st.put d x).ds = st.ds := by cases d <;> rfl
theorem m_put {st : AS} {d : Option Tmp} {x : AV} : (st.put d x).m = st.m := AS.put_m _ _ _
theorem ev_const {st : AS} {v : Value} : st.ev (.const v) = ofConst v := rfl
theorem ev_func {st : AS} {f : FuncId} : st.ev (.func f) = .fn (.func f) [] [] := rfl
theorem ev_tmp {st : AS} {i : Nat} : st.ev (.tmp i) = st.t i := rfl

theorem ev_with {st : AS} {σ' : Nat → Option AO} {fr' : List Nat} {x : Operand} : (st.withσ σ' fr').ev x = st.ev x := by cases x <;> rfl
theorem t_with {st : AS} {σ' : Nat → Option AO} {fr' : List Nat} : (st.withσ σ' fr').t = st.t := rfl
theorem σ_with {st : AS} {σ' : Nat → Option AO} {fr' : List Nat} : (st.withσ σ' fr').σ = σ' := rfl
theorem fr_with {st : AS} {σ' : Nat → Option AO} {fr' : List Nat} : (st.withσ σ' fr').fr = fr' := rfl
theorem c_with {st : AS} {σ' : Nat → Option AO} {fr' : List Nat} : (st.withσ σ' fr').c = st.c := rfl
theorem ds_with {st : AS} {σ' : Nat → Option AO} {fr' : List Nat} : (st.withσ σ' fr').ds = st.ds := rfl
theorem ev_grow {st : AS} {x : Operand} : st.grow.ev x = st.ev x := by cases x <;> rfl
theorem t_grow {st : AS} : st.grow.t = st.t := rfl
theorem σ_grow {st : AS} : st.grow.σ = st.σ := rfl
theorem c_grow {st : AS} : st.grow.c = st.c + 1 := rfl
theorem fr_grow {st : AS} : st.grow.fr = st.c :: st.fr := rfl
theorem ds_grow {st : AS} : st.grow.ds = st.ds := rfl
theorem m_grow {st : AS} : st.grow.m = st.m := rfl
theorem m_with {st : AS} {σ' : Nat → Option AO} {fr' : List Nat} : (st.withσ σ' fr').m = st.m := rfl

section
variable {ds : List (Option Tmp)} {st : AS} {o : Oper} {os : List Oper} {K : AS → Prop}
theorem OpsA.nil (h : K st) : OpsA P tt ds [] st K := h
theorem OpsA.v {x : AV} (hg : o.guard = none) (hx : valA tt st.ev st.σ o.op = some x) (h : OpsA P tt ds os (st.put o.dst x) K) : OpsA P tt ds (o :: os) st K := by
  unfold OpsA OpA; rw [hg]; exact .inl ⟨x, hx, h⟩
theorem OpsA.mut {p : AV × (Nat → Option AO)} (hg : o.guard = none) (hx : mutA tt st.ev st.σ o.op = some p) (h : OpsA P tt ds os ((st.withσ p.2 st.fr).put o.dst p.1) K) : OpsA P tt ds (o :: os) st K := by
  unfold OpsA OpA; rw [hg]; exact .inr (.inl ⟨p.1, p.2, hx, h⟩)
theorem OpsA.new (nm : Nat) {p : AV × (Nat → Option AO)} {fr' : List Nat} (hg : o.guard = none) (hx : newA tt st.ev st.σ nm o.op = some p) (hn : nm ∈ st.fr) (hfr : (st.fr.filter fun n => n != nm) = fr') (h : OpsA P tt ds os ((st.withσ p.2 fr').put o.dst p.1) K) : OpsA P tt ds (o :: os) st K := by
  subst hfr
  unfold OpsA OpA; rw [hg]; exact .inr (.inr (.inl ⟨nm, p.1, p.2, hx, hn, h⟩))
theorem OpsA.call {k : FuncId} {args : List AV} {Ns : List Nat} {Q : AV → (Nat → Option AO) → Prop} {fr' : List Nat} (hc : CallA P k args st.σ Ns Q) (hg : o.guard = none) (hx : callA st.ev o.op = some (.fn k, args)) (hk : okFn P k = true)
    (hn : ∀ n, n ∈ Ns → n ∈ st.fr) (hfr : (st.fr.filter fun n => !Ns.contains n) = fr') (h : ∀ x σ', Q x σ' → OpsA P tt ds os ((st.withσ σ' fr').put o.dst x) K) : OpsA P tt ds (o :: os) st K := by
  subst hfr
  unfold OpsA OpA; rw [hg]; exact .inr (.inr (.inr ⟨.fn k, args, Ns, Q, hx, hk, hc, hn, h⟩))
theorem OpsA.yield {k : Nat} {args : List AV} {Ns : List Nat} {Q : AV → (Nat → Option AO) → Prop} {fr' : List Nat} (hc : RoundA P k args st.σ Ns Q) (hg : o.guard = none) (hx : callA st.ev o.op = some (.yl k, args))
    (hn : ∀ n, n ∈ Ns → n ∈ st.fr) (hfr : (st.fr.filter fun n => !Ns.contains n) = fr') (h : ∀ x σ', Q x σ' → OpsA P tt ds os ((st.withσ σ' fr').put o.dst x) K) : OpsA P tt ds (o :: os) st K := by
  subst hfr
  unfold OpsA OpA; rw [hg]
  exact .inr (.inr (.inr ⟨.yl k, args, Ns, Q, hx, rfl, hc, hn, h⟩))
theorem OpsA.guard {g : Nat} {want : Bool} {d : Tmp} {b : Bool} (hg : o.guard = some (g, want)) (hd : ds[g]? = some (some d)) (hb : st.ev (.tmp d) = .bool b) (h1 : b = want → OpsA P tt ds ({ o with guard := none } :: os) st K) (h2 : b ≠ want → OpsA P tt ds os (st.put o.dst .junk) K) :
    OpsA P tt ds (o :: os) st K := by
  unfold OpsA OpA; rw [hg]; exact ⟨d, b, hd, hb, h1, h2⟩

def runV (tt : Nat → Option TI) : List Oper → AS → Option AS
  | [], st => some st
  | o :: os, st => match o.guard with
    | none => (valA tt st.ev st.σ o.op).bind fun x => runV tt os (st.put o.dst x)
    | some _ => none
theorem OpsA.run (n : Nat) {l : List Oper} {s : AS} (h : runV tt (l.take n) st = some s) (k : OpsA P tt ds (l.drop n) s K) : OpsA P tt ds l st K := by
  induction n generalizing l st with
  | zero => simp only [List.take_zero, runV, Option.some.injEq] at h; subst h; simpa using k
  | succ n ih =>
    cases l with
    | nil => simp only [List.take_nil, runV, Option.some.injEq] at h; subst h; simpa using k
    | cons o l =>
      simp only [List.take_succ_cons, runV] at h
      split at h
      · rename_i hg
        simp only [Option.bind_eq_some_iff] at h
        obtain ⟨x, h1, h2⟩ := h
        exact OpsA.v hg h1 (ih h2 (by simpa using k))
      · cases h
end

/-- One operation that is no call. -/
def exec1 (tt : Nat → Option TI) (st : AS) (o : Oper) : Option AS :=
  match o.guard with
  | some _ => none
  | none => match valA tt st.ev st.σ o.op with
    | some x => some (st.put o.dst x)
    | none => match mutA tt st.ev st.σ o.op with
      | some (x, σ') => some ((st.withσ σ' st.fr).put o.dst x)
      | none => match st.fr with
        | nm :: fr => match newA tt st.ev st.σ nm o.op with
          | some (x, σ') => some ((st.withσ σ' (fr.filter fun n => n != nm)).put o.dst x)
          | none => none
        | [] => none
def runX (tt : Nat → Option TI) : List Oper → AS → Option AS
  | [], st => some st
  | o :: os, st => (exec1 tt st o).bind (runX tt os)
theorem OpsA.x {ds : List (Option Tmp)} {st s : AS} {o : Oper} {os : List Oper} {K : AS → Prop} (h : exec1 tt st o = some s) (k : OpsA P tt ds os s K) : OpsA P tt ds (o :: os) st K := by
  unfold exec1 at h
  split at h
  · cases h
  · rename_i hg
    split at h
    · rename_i x hv; cases h; exact OpsA.v hg hv k
    · split at h
      · rename_i x σ' hm; cases h; exact OpsA.mut hg hm k
      · split at h
        · rename_i nm fr hfr
          split at h
          · rename_i x σ' hn
            cases h
            exact OpsA.new nm hg hn (by rw [hfr]; exact List.mem_cons_self ..) (by rw [hfr]; simp) k
          · cases h
        · cases h
theorem OpsA.runX (n : Nat) {ds : List (Option Tmp)} {st : AS} {l : List Oper} {s : AS} {K : AS → Prop} (h : runX tt (l.take n) st = some s) (k : OpsA P tt ds (l.drop n) s K) : OpsA P tt ds l st K := by
  induction n generalizing l st with
  | zero => simp only [List.take_zero, Ab.runX, Option.some.injEq] at h; subst h; simpa using k
  | succ n ih =>
    cases l with
    | nil => simp only [List.take_nil, Ab.runX, Option.some.injEq] at h; subst h; simpa using k
    | cons o l =>
      simp only [List.take_succ_cons, Ab.runX, Option.bind_eq_some_iff] at h
      obtain ⟨s1, h1, h2⟩ := h
      exact OpsA.x h1 (ih h2 (by simpa using k))
theorem OpsA.all {ds : List (Option Tmp)} {st : AS} {l : List Oper} {s : AS} {K : AS → Prop} (h : Ab.runX tt l st = some s) (k : K s) : OpsA P tt ds l st K :=
  OpsA.runX l.length (by simpa using h) (by rw [List.drop_length]; exact k)

/-- .. where the guards' words are told. -/
def execG (tt : Nat → Option TI) (ds : List (Option Tmp)) (st : AS) (o : Oper) : Option AS :=
  match o.guard with
  | none => exec1 tt st o
  | some (g, want) => match ds[g]? with
    | some (some d) => match st.ev (.tmp d) with
      | .bool b => if b = want then exec1 tt st { o with guard := none } else some (st.put o.dst .junk)
      | _ => none
    | _ => none
def runG (tt : Nat → Option TI) (ds : List (Option Tmp)) : List Oper → AS → Option AS
  | [], st => some st
  | o :: os, st => (execG tt ds st o).bind (runG tt ds os)
theorem OpsA.g {ds : List (Option Tmp)} {st s : AS} {o : Oper} {os : List Oper} {K : AS → Prop} (h : execG tt ds st o = some s) (k : OpsA P tt ds os s K) : OpsA P tt ds (o :: os) st K := by
  unfold execG at h
  split at h
  · exact OpsA.x h k
  · rename_i g want hg
    split at h
    · rename_i d hd
      split at h
      · rename_i b hb
        refine OpsA.guard hg hd hb (fun e => ?_) (fun e => ?_)
        · rw [if_pos e] at h; exact OpsA.x h k
        · rw [if_neg e] at h; cases h; exact k
      · cases h
    · cases h
theorem OpsA.runG (n : Nat) {ds : List (Option Tmp)} {st : AS} {l : List Oper} {s : AS} {K : AS → Prop} (h : Ab.runG tt ds (l.take n) st = some s) (k : OpsA P tt ds (l.drop n) s K) : OpsA P tt ds l st K := by
  induction n generalizing l st with
  | zero => simp only [List.take_zero, Ab.runG, Option.some.injEq] at h; subst h; simpa using k
  | succ n ih =>
    cases l with
    | nil => simp only [List.take_nil, Ab.runG, Option.some.injEq] at h; subst h; simpa using k
    | cons o l =>
      simp only [List.take_succ_cons, Ab.runG, Option.bind_eq_some_iff] at h
      obtain ⟨s1, h1, h2⟩ := h
      exact OpsA.g h1 (ih h2 (by simpa using k))
theorem OpsA.allG {ds : List (Option Tmp)} {st : AS} {l : List Oper} {s : AS} {K : AS → Prop} (h : Ab.runG tt ds l st = some s) (k : K s) : OpsA P tt ds l st K :=
  OpsA.runG l.length (by simpa using h) (by rw [List.drop_length]; exact k)

theorem Tri.x (ht : TTok P tt) {id : Nat} {l : List Oper} {st s : AS} {Q : Exit → AS → Prop} (hd : dstOk st.m l = true) (h : Ab.runX tt l st = some s) (k : Q .normal s) : Tri r P (.region id l.toArray false) st Q := Tri.region ht hd (OpsA.all h k)
theorem Tri.seqX (ht : TTok P tt) {id : Nat} {l : List Oper} {y : Code} {st s : AS} {Q : Exit → AS → Prop} (hd : dstOk st.m l = true) (h : Ab.runX tt l st = some s) (k : Tri r P y s Q) : Tri r P (.seq (.region id l.toArray false) y) st Q := Tri.seq (Tri.region ht hd (OpsA.all h k))

/-- A slice of a name, in a slot, is told by value; the name is no more. -/
theorem Gh.freezeT {st : AS} (i : Nat) {n g T e len : Nat} {rows : List (List AV)} {y : AV} {z : Option AO} (hi : st.ev (.tmp i) = y) (hy : y = .os n g len) (hn : st.σ n = z) (hz : z = some (.arr T e g rows)) (hl : len ≤ rows.length) :
    Gh st ((st.withσ (upd st.σ n none) st.fr).put (some i) (.sl (rows.take len))) := by
  subst hy hz
  exact Gh.freeze hn (upd st.t i (.sl (rows.take len))) (upd st.σ n none) (upd_same _ _ _) (fun j => by
    by_cases e : j = i
    · subst e; rw [upd_same]; exact .inr ⟨len, hi, hl, rfl⟩
    · rw [upd_ne _ _ e]; exact .inl rfl) fun m hm => by rw [upd_ne _ _ hm]; exact .inl rfl
theorem Tri.freezeT {c : Code} {st : AS} {Q : Exit → AS → Prop} (i : Nat) {n g T e len : Nat} {rows : List (List AV)} {y : AV} {z : Option AO} (hi : st.ev (.tmp i) = y) (hy : y = .os n g len) (hn : st.σ n = z) (hz : z = some (.arr T e g rows)) (hl : len ≤ rows.length)
    (h : Tri r P c ((st.withσ (upd st.σ n none) st.fr).put (some i) (.sl (rows.take len))) Q) : Tri r P c st Q := Tri.gh (Gh.freezeT i hi hy hn hz hl) h
/-- .. in a cell of an object. -/
theorem Gh.freezeO {st : AS} (m k : Nat) {n g T e len T' : Nat} {rows : List (List AV)} {cs : List AV} {y z : Option AO} {q : Option AV} (hm : st.σ m = y) (hy : y = some (.cells T' cs)) (hk : cs[k]? = q) (hq : q = some (.os n g len)) (hn : st.σ n = z) (hz : z = some (.arr T e g rows)) (hl : len ≤ rows.length) :
    Gh st (st.withσ (upd (upd st.σ n none) m (some (.cells T' (cs.set k (.sl (rows.take len)))))) st.fr) := by
  subst hy hq hz
  have hmn : n ≠ m := by rintro rfl; rw [hm] at hn; cases hn
  refine Gh.freeze hn st.t (upd (upd st.σ n none) m (some (.cells T' (cs.set k (.sl (rows.take len)))))) (by rw [upd_ne _ _ hmn, upd_same]) (fun j => .inl rfl) fun j hj => ?_
  by_cases e : j = m
  · subst e
    rw [upd_same]
    refine .inr ⟨T', cs, _, hm, rfl, by simp, fun i a b ha hb => ?_⟩
    rw [List.getElem?_set] at hb
    split at hb
    · rename_i hki
      subst hki
      rw [ha] at hk; cases hk
      split at hb
      · cases hb; exact .inr ⟨len, rfl, hl, rfl⟩
      · cases hb
    · rw [ha] at hb; cases hb; exact .inl rfl
  · rw [upd_ne _ _ e, upd_ne _ _ hj]; exact .inl rfl

/-- A name is given up. -/
theorem Gh.kill {st : AS} (n : Nat) : Gh st (st.withσ (upd st.σ n none) st.fr) := fun a w φ hr =>
  ⟨φ, ⟨fun i => VRel.mono (Ext.kill n) _ _ (hr.slot i), hr.size, hr.defers, SRel.kill hr.store n, hr.fresh, hr.free⟩, ⟨Ext.kill n, Nat.le_refl _, fun _ e _ => e, fun _ _ _ e => e⟩⟩
/-- Names at hand are let go. -/
theorem Gh.lessNames {st : AS} (fr' : List Nat) (h : ∀ n, n ∈ fr' → n ∈ st.fr) : Gh st (st.withσ st.σ fr') := fun a w φ hr =>
  ⟨φ, ⟨hr.slot, hr.size, hr.defers, hr.store, hr.fresh, fun n hn => hr.free n (h n hn)⟩, ⟨Ext.refl _, Nat.le_refl _, fun n hn _ => h n hn, fun _ _ _ e => e⟩⟩

theorem start_t {args : List AV} {σ : Nat → Option AO} {c m : Nat} {Ns : List Nat} {i : Nat} : (startA args σ c Ns m).ev (.tmp i) = args.getD i .junk := rfl
theorem start_σ {args : List AV} {σ : Nat → Option AO} {c m : Nat} {Ns : List Nat} : (startA args σ c Ns m).σ = σ := rfl
theorem start_fr {args : List AV} {σ : Nat → Option AO} {c m : Nat} {Ns : List Nat} : (startA args σ c Ns m).fr = Ns := rfl
theorem start_c {args : List AV} {σ : Nat → Option AO} {c m : Nat} {Ns : List Nat} : (startA args σ c Ns m).c = c := rfl
theorem start_ds {args : List AV} {σ : Nat → Option AO} {c m : Nat} {Ns : List Nat} : (startA args σ c Ns m).ds = [] := rfl

/-- A row of blocks in sequence: a region, and on. -/
theorem Tri.seqR (ht : TTok P tt) {id : Nat} {l : List Oper} {y : Code} {st : AS} {Q : Exit → AS → Prop} (hd : dstOk st.m l = true) (h : OpsA P tt (l.map (·.dst)) l st fun s => Tri r P y s Q) : Tri r P (.seq (.region id l.toArray false) y) st Q :=
  Tri.seq (Tri.region ht hd h)
theorem Tri.seqD (ht : TTok P tt) (hmix : P.follows .mixedOrders = true) (ord : List Nat) {id : Nat} {l : List Oper} {y : Code} {st : AS} {Q : Exit → AS → Prop} (hok : drawOk l ord = true) (hd : dstOk st.m l = true)
    (h : OpsA P tt (l.map (·.dst)) (ord.filterMap fun i => l[i]?) st fun s => Tri r P y s Q) : Tri r P (.seq (.region id l.toArray true) y) st Q :=
  Tri.seq (Tri.drawn ht hmix ord hok hd h)
/-- A test in a row: each arm, and on. -/
theorem Tri.seqIf {c : Operand} {x y z : Code} {st : AS} {Q : Exit → AS → Prop} {b : Bool} (hc : st.ev c = .bool b) (ht : b = true → Tri r P x st (thenQ (fun s => Tri r P z s Q) Q)) (hf : b = false → Tri r P y st (thenQ (fun s => Tri r P z s Q) Q)) :
    Tri r P (.seq (.cond c x y) z) st Q := Tri.seq (Tri.cond hc ht hf)
theorem start_t' {args : List AV} {σ : Nat → Option AO} {c m : Nat} {Ns : List Nat} {i : Nat} : (startA args σ c Ns m).t i = args.getD i .junk := rfl
attribute [simp] start_t' upd_idem
attribute [simp] ev_grow t_grow σ_grow c_grow fr_grow ds_grow m_grow
attribute [simp] ev_put_same ev_put_ne put_none t_put_same t_put_ne σ_put fr_put c_put ds_put m_put ev_const ev_func ev_with t_with σ_with fr_with c_with ds_with m_with start_t start_σ start_fr start_c start_ds
attribute [simp] eqOs execG runG exec1 runX valA mutA newA callA ofConst upd_same upd_ne binA intA unA loadA readA storeA allocA boxA makeMapA fieldA addOff extractA partA nilOk AD.agg minA rowsOk_nil rowsOk_cons rowsOk_append rowsOk_take rowsOk_drop rowsLen_of_ok resA cellA one Option.bind_some thenQ blockQ splice
section
variable {k : IntKind} {n m g i o e : Nat} {z : Int} {b : Bool} {s : List UInt8} {rows : List (List AV)} {cs vs fs : List AV} {f : Fn} {x : AV}
@[simp] theorem one_bool : (AV.bool b).one = true := rfl
@[simp] theorem one_int : (AV.int k z).one = true := rfl
@[simp] theorem one_str : (AV.str s).one = true := rfl
@[simp] theorem one_nilp : AV.nilp.one = true := rfl
@[simp] theorem one_ptr : (AV.ptr n o).one = true := rfl
@[simp] theorem one_ap : (AV.ap n g e i o).one = true := rfl
@[simp] theorem one_pp : (AV.pp rows i o).one = true := rfl
@[simp] theorem one_nils : AV.nils.one = true := rfl
@[simp] theorem one_sle : AV.sle.one = true := rfl
@[simp] theorem one_sl : (AV.sl rows).one = true := rfl
@[simp] theorem one_os : (AV.os n g m).one = true := rfl
@[simp] theorem one_nilm : AV.nilm.one = true := rfl
@[simp] theorem one_map : (AV.map n).one = true := rfl
@[simp] theorem one_fn : (AV.fn f fs cs).one = true := rfl
@[simp] theorem one_yld : (AV.yld n).one = true := rfl
@[simp] theorem one_nilf : AV.nilf.one = true := rfl
@[simp] theorem cells_agg : (AV.agg cs).cells = cs := rfl
@[simp] theorem cells_bool : (AV.bool b).cells = [.bool b] := rfl
@[simp] theorem cells_int : (AV.int k z).cells = [.int k z] := rfl
@[simp] theorem cells_str : (AV.str s).cells = [.str s] := rfl
@[simp] theorem cells_nilp : AV.nilp.cells = [.nilp] := rfl
@[simp] theorem cells_ptr : (AV.ptr n o).cells = [.ptr n o] := rfl
@[simp] theorem cells_pp : (AV.pp rows i o).cells = [.pp rows i o] := rfl
@[simp] theorem cells_nils : AV.nils.cells = [.nils] := rfl
@[simp] theorem cells_sle : AV.sle.cells = [.sle] := rfl
@[simp] theorem cells_sl : (AV.sl rows).cells = [.sl rows] := rfl
@[simp] theorem cells_os : (AV.os n g m).cells = [.os n g m] := rfl
@[simp] theorem cells_nilm : AV.nilm.cells = [.nilm] := rfl
@[simp] theorem cells_map : (AV.map n).cells = [.map n] := rfl
@[simp] theorem cells_fn : (AV.fn f fs cs).cells = [.fn f fs cs] := rfl
@[simp] theorem cells_yld : (AV.yld n).cells = [.yld n] := rfl
@[simp] theorem cells_nilf : AV.nilf.cells = [.nilf] := rfl
attribute [simp] AV.ok
@[simp] theorem isOs_os : isOs (.os n g m) = true := rfl
@[simp] theorem isOs_sl : isOs (.sl rows) = false := rfl
@[simp] theorem isOs_nils : isOs .nils = false := rfl
@[simp] theorem isNils_os : isNils (.os n g m) = false := rfl
@[simp] theorem isNils_sl : isNils (.sl rows) = false := rfl
@[simp] theorem isNils_nils : isNils .nils = true := rfl
@[simp] theorem srcA_sl {σ : Nat → Option AO} : srcA σ e (.sl rows) = some rows := rfl
@[simp] theorem srcA_nils {σ : Nat → Option AO} : srcA σ e .nils = some [] := rfl
@[simp] theorem srcA_sle {σ : Nat → Option AO} : srcA σ e .sle = some [] := rfl
end
theorem start_m {args : List AV} {σ : Nat → Option AO} {c m : Nat} {Ns : List Nat} : (startA args σ c Ns m).m = m := rfl

theorem wrap_id {n : Int} (h1 : -9223372036854775808 ≤ n) (h2 : n ≤ 9223372036854775807) : IntKind.i64.wrap n = n := by
  rw [IntKind.wrap_i64]; omega
end Go.Ab
