import Derived.Test.YtilpklkgmibpgaaT2
namespace Go.Proofs.Ytilpklkgmibpgaa
open Go.Ab
set_option maxHeartbeats 400000
set_option linter.unusedVariables false
set_option linter.unusedSimpArgs false

structure Ev where
  name : List UInt8
  key : Int
  value : Int
  deriving DecidableEq
structure Msg where
  back : Bool
  ev : Ev
  deriving DecidableEq
structure Asking where
  name : List UInt8
  time : Int
  wait : Int
  deriving DecidableEq
structure Wire where
  values : List Int
  clock : Int
  opens : List (Int × Asking)
  flight : List Msg
  applied : List Ev
  gen : Nat
def evRow (e : Ev) : List AV := [.str e.name, .int .i64 e.key, .int .i64 e.value]
def msgRow (m : Msg) : List AV := [.bool m.back, .str m.ev.name, .int .i64 m.ev.key, .int .i64 m.ev.value]
def askAV (a : Asking) : AV := .agg [.str a.name, .int .i64 a.time, .int .i64 a.wait]
def intRow (v : Int) : List AV := [.int .i64 v]
def wireCells (w : Wire) (M K : Nat) : List AV := [.sl (w.values.map intRow), .int .i64 w.clock, .map M, .sl (w.flight.map msgRow), .os K w.gen w.applied.length]
def openEs (w : Wire) : List (Int × AV) := w.opens.map fun p => (p.1, askAV p.2)
structure IsW (σ : Nat → Option AO) (N M K : Nat) (w : Wire) : Prop where
  n : σ N = some (.cells 57 (wireCells w M K))
  m : σ M = some (.imap (openEs w))
  k : σ K = some (.arr 30 3 w.gen (w.applied.map evRow))
  vs : w.values.length ≤ 1000000
  fl : w.flight.length ≤ 900000
  ap : w.applied.length ≤ 900000
  clock : 0 ≤ w.clock ∧ w.clock ≤ 1000000
def putW (σ : Nat → Option AO) (N M K : Nat) (w : Wire) : Nat → Option AO := upd (upd (upd σ K (some (.arr 30 3 w.gen (w.applied.map evRow)))) M (some (.imap (openEs w)))) N (some (.cells 57 (wireCells w M K)))
theorem IsW.ne {σ : Nat → Option AO} {N M K : Nat} {w : Wire} (h : IsW σ N M K w) : N ≠ M := by
  rintro rfl
  have := h.n.symm.trans h.m
  cases this
theorem IsW.neK {σ : Nat → Option AO} {N M K : Nat} {w : Wire} (h : IsW σ N M K w) : N ≠ K := by
  rintro rfl
  have := h.n.symm.trans h.k
  cases this
theorem IsW.neMK {σ : Nat → Option AO} {N M K : Nat} {w : Wire} (h : IsW σ N M K w) : M ≠ K := by
  rintro rfl
  have := h.m.symm.trans h.k
  cases this
theorem IsW.self {σ : Nat → Option AO} {N M K : Nat} {w : Wire} (h : IsW σ N M K w) : putW σ N M K w = σ := by
  unfold putW
  rw [upd_self σ K h.k, upd_self σ M h.m, upd_self σ N h.n]

theorem ok_int (l : List Int) : rowsOk 1 (l.map intRow) = true := by simp [rowsOk, intRow]
theorem ok_msg (l : List Msg) : rowsOk 4 (l.map msgRow) = true := by simp [rowsOk, msgRow]
theorem ok_ev (l : List Ev) : rowsOk 3 (l.map evRow) = true := by simp [rowsOk, evRow]
theorem lt_map {α : Type} (c : Nat) (f : α → List AV) (h : ∀ a, listLt c (f a)) : ∀ (l : List α), rowsLt c (l.map f)
  | [] => trivial
  | a :: l => ⟨h a, lt_map c f h l⟩
theorem lt_int (c : Nat) (l : List Int) : rowsLt c (l.map intRow) := lt_map c intRow (fun a => ⟨trivial, trivial⟩) l
theorem lt_msg (c : Nat) (l : List Msg) : rowsLt c (l.map msgRow) := lt_map c msgRow (fun a => ⟨trivial, trivial, trivial, trivial, trivial⟩) l
theorem lt_ev (c : Nat) (l : List Ev) : rowsLt c (l.map evRow) := lt_map c evRow (fun a => ⟨trivial, trivial, trivial, trivial⟩) l
theorem lt_wire {c M K : Nat} (w : Wire) (h : M < c) (hK : K < c) : AO.lt c (.cells 57 (wireCells w M K)) := ⟨lt_int c _, trivial, h, lt_msg c _, hK, trivial⟩
theorem lt_appl (c : Nat) (w : Wire) : AO.lt c (.arr 30 3 w.gen (w.applied.map evRow)) := lt_ev c _
theorem lt_open (c : Nat) (w : Wire) : AO.lt c (.imap (openEs w)) := by
  show listLt c ((w.opens.map fun p => (p.1, askAV p.2)).map (·.2))
  induction w.opens with
  | nil => trivial
  | cons p l ih => exact ⟨⟨trivial, trivial, trivial, trivial⟩, ih⟩

attribute [local simp] tt3 tt4 tt9 tt22 tt24 tt30 tt31 tt36 tt42 tt55 tt57 tt63
attribute [local simp] eqA sliceEq rowsA fillR appendA AV.lt mapElem lookupA mapPutA mapDelA mapClearA lenA sliceA indexA nth

/-- The state at a method's end, where a wire stands as it stood. -/
theorem stays_same {c : Nat} {σ : Nat → Option AO} {st : AS} (h : st.σ = σ) : Stays c σ st.σ := by rw [h]; exact Stays.refl _ _

theorem call_is39 {σ : Nat → Option AO} {N M K : Nat} {w : Wire} {i : Int} (hw : IsW σ N M K w) : CallA Try.prog 39 [.ptr N 0, .int .i64 i] σ [] fun x σ' => x = .bool (decide (0 ≤ i ∧ i < w.flight.length)) ∧ σ' = σ := by
  refine CallA.of ttok Try.func39 rfl (show 2 ≤ 16 by decide) fun c hF => ?_
  have hσ : cutσ c σ = σ := cutσ_self fun n hn => (hF.good.2 n hn : σ n = none)
  have hn := hw.n
  refine Tri.seqX ttok rfl (by simp <;> rfl) ?_
  refine Tri.seq (Tri.region ttok rfl ?_)
  refine OpsA.runX 3 (by simp <;> rfl) ?_
  simp only [List.drop]
  by_cases h0 : 0 ≤ i
  · refine OpsA.allG (by simp [hn, wireCells, h0]; rfl) ?_
    exact Tri.ret (fnPost.tmp (.inr rfl) rfl rfl (by simp <;> rfl) (by exact True.intro) (Stays.refl _ _) ⟨by simp [h0], by simpa using hσ⟩)
  · refine OpsA.allG (by simp [hn, wireCells, h0]; rfl) ?_
    exact Tri.ret (fnPost.tmp (.inr rfl) rfl rfl (by simp <;> rfl) (by exact True.intro) (Stays.refl _ _) ⟨by simp [h0], by simpa using hσ⟩)

theorem call_flight18 {σ : Nat → Option AO} {N M K : Nat} {w : Wire} (hw : IsW σ N M K w) : CallA Try.prog 18 [.ptr N 0] σ [] fun x σ' => x = .sl (w.flight.map msgRow) ∧ σ' = σ := by
  refine CallA.of ttok Try.func18 rfl (show 1 ≤ 8 by decide) fun c hF => ?_
  have hσ : cutσ c σ = σ := cutσ_self fun n hn => (hF.good.2 n hn : σ n = none)
  have hn := hw.n
  refine Tri.seqX ttok rfl (by simp <;> rfl) ?_
  refine Tri.seq (Tri.region ttok rfl ?_)
  refine OpsA.runX 4 (by simp [hn, wireCells]; rfl) ?_
  simp only [List.drop]
  refine OpsA.call (call_clone38 (ok_msg w.flight) (by have := hw.fl; simp; omega)) rfl (by simp <;> rfl) (by kernel_rfl) (by simp) rfl ?_
  rintro x σ' ⟨rfl, rfl⟩
  refine OpsA.all (by simp <;> rfl) ?_
  exact Tri.ret (fnPost.tmp (.inr rfl) rfl rfl (by simp <;> rfl) (by exact lt_msg c _) (by simp; exact Stays.refl _ _) ⟨rfl, by simpa using hσ⟩)

theorem call_crash21 {σ : Nat → Option AO} {N M K : Nat} {w : Wire} (hw : IsW σ N M K w) : CallA Try.prog 21 [.ptr N 0] σ [] fun x σ' => x = .tup [] ∧ σ' = putW σ N M K { w with opens := [] } := by
  refine CallA.of ttok Try.func21 rfl (show 1 ≤ 6 by decide) fun c hF => ?_
  have hσ : cutσ c σ = σ := cutσ_self fun n hn => (hF.good.2 n hn : σ n = none)
  have hn := hw.n
  have hm := hw.m
  have hMc : M < c := (hF.σ M _ hm).1
  have hKc : K < c := (hF.σ K _ hw.k).1
  have hp : putW σ N M K { w with opens := [] } = upd σ M (some (.imap [])) := by
    unfold putW
    rw [upd_self σ K hw.k, upd_self _ N]; · rfl
    · rw [upd_ne _ _ hw.ne]; exact hn
  refine Tri.x ttok rfl (by simp [hn, hm, wireCells]; rfl) ?_
  exact fnPost.none (.inl rfl) rfl rfl (by simp; exact Stays.old (by trivial) (Stays.refl _ _)) ⟨rfl, by simp [cutσ_old, hMc, hσ, hp]⟩

theorem fnd_open (k : Int) : ∀ (l : List (Int × Asking)), (fnd k (l.map fun p => (p.1, askAV p.2))).isSome = l.any fun p => p.1 = k
  | [] => rfl
  | p :: l => by
    have ih := fnd_open k l
    simp only [List.map_cons, fnd, List.any_cons]
    by_cases h : k = p.1
    · simp [h]
    · simp only [h, if_false, Option.isSome_map, ih]
      have : ¬ p.1 = k := fun e => h e.symm
      simp [this]
/-- A key's entry goes. -/
def del (k : Int) : List (Int × Asking) → List (Int × Asking)
  | [] => []
  | p :: l => if k = p.1 then l else p :: del k l
theorem delM_open (k : Int) : ∀ (l : List (Int × Asking)), delM k (l.map fun p => (p.1, askAV p.2)) = (del k l).map fun p => (p.1, askAV p.2)
  | [] => rfl
  | p :: l => by
    simp only [List.map_cons, delM, del]
    by_cases h : k = p.1
    · simp [h]
    · simp [h, delM_open k l]
theorem upd_openM {σ : Nat → Option AO} {N M K : Nat} {w : Wire} {o' : List (Int × Asking)} (hw : IsW σ N M K w) : upd σ M (some (.imap (o'.map fun p => (p.1, askAV p.2)))) = putW σ N M K { w with opens := o' } := by
  unfold putW
  rw [upd_self σ K hw.k, upd_self _ N]; · rfl
  · rw [upd_ne _ _ hw.ne]; exact hw.n
theorem call_forget24 {σ : Nat → Option AO} {N M K : Nat} {w : Wire} {k : Int} (hw : IsW σ N M K w) : CallA Try.prog 24 [.ptr N 0, .int .i64 k] σ [] fun x σ' => x = .tup [] ∧ σ' = putW σ N M K { w with opens := del k w.opens } := by
  refine CallA.of ttok Try.func24 rfl (show 2 ≤ 9 by decide) fun c hF => ?_
  have hσ : cutσ c σ = σ := cutσ_self fun n hn => (hF.good.2 n hn : σ n = none)
  have hn := hw.n
  have hm := hw.m
  have hMc : M < c := (hF.σ M _ hm).1
  have hKc : K < c := (hF.σ K _ hw.k).1
  refine Tri.x ttok rfl (by simp [hn, hm, wireCells, openEs, delM_open] <;> rfl) ?_
  refine fnPost.none (.inl rfl) rfl rfl (by simp; exact Stays.old (lt_open c { w with opens := del k w.opens }) (Stays.refl _ _)) ⟨rfl, by simp [cutσ_old, hMc, hσ]; exact upd_openM hw⟩
end Go.Proofs.Ytilpklkgmibpgaa
