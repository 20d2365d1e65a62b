/- The document's wire (the package penanceref12), told of states: what it is, its names X (the struct), O (what is open), F (what flies), A (what was applied). -/
import Derived.Test.YtilpklkgmibpgaaT20
import Derived.Test.YtilpklkgmibpgaaAb19
namespace Go.Proofs.Ytilpklkgmibpgaa
open Go.Ab
set_option maxHeartbeats 400000
set_option linter.unusedVariables false
set_option linter.unusedSimpArgs false

structure Opn where
  e : Ev
  time : Int
  wait : Int
structure RW where
  v : List Int
  o : List Opn
  f : List Msg
  a : List Ev
  clock : Int
structure Gens where
  o : Nat
  f : Nat
  a : Nat
def opnRow (o : Opn) : List AV := [.str o.e.name, .int .i64 o.e.key, .int .i64 o.e.value, .int .i64 o.time, .int .i64 o.wait]
def xCells (x : RW) (O F A : Nat) (g : Gens) : List AV := [.sl (x.v.map intRow), .os O g.o x.o.length, .os F g.f x.f.length, .os A g.a x.a.length, .int .i64 x.clock]
structure IsX (σ : Nat → Option AO) (X O F A : Nat) (x : RW) (g : Gens) : Prop where
  n : σ X = some (.cells 74 (xCells x O F A g))
  o : σ O = some (.arr 81 5 g.o (x.o.map opnRow))
  f : σ F = some (.arr 77 4 g.f (x.f.map msgRow))
  a : σ A = some (.arr 30 3 g.a (x.a.map evRow))
  vl : x.v.length ≤ 1000000
  ol : x.o.length ≤ 100000
  fl : x.f.length ≤ 900000
  al : x.a.length ≤ 900000
  ck : 0 ≤ x.clock ∧ x.clock ≤ 1000000
def putX (σ : Nat → Option AO) (X O F A : Nat) (x : RW) (g : Gens) : Nat → Option AO :=
  upd (upd (upd (upd σ O (some (.arr 81 5 g.o (x.o.map opnRow)))) F (some (.arr 77 4 g.f (x.f.map msgRow)))) A (some (.arr 30 3 g.a (x.a.map evRow)))) X (some (.cells 74 (xCells x O F A g)))
/-- The names are four. -/
structure Four (X O F A : Nat) : Prop where
  xo : X ≠ O
  xf : X ≠ F
  xa : X ≠ A
  of : O ≠ F
  oa : O ≠ A
  fa : F ≠ A
section
variable {σ : Nat → Option AO} {X O F A : Nat} {x x' : RW} {g g' : Gens}
theorem IsX.four (h : IsX σ X O F A x g) : Four X O F A := by
  refine ⟨?_, ?_, ?_, ?_, ?_, ?_⟩
  · rintro rfl; have := h.n.symm.trans h.o; cases this
  · rintro rfl; have := h.n.symm.trans h.f; cases this
  · rintro rfl; have := h.n.symm.trans h.a; cases this
  · rintro rfl; have := h.o.symm.trans h.f; simp at this
  · rintro rfl; have := h.o.symm.trans h.a; simp at this
  · rintro rfl; have := h.f.symm.trans h.a; simp at this
theorem putX_X : putX σ X O F A x g X = some (.cells 74 (xCells x O F A g)) := upd_same _ _ _
theorem putX_O (h : Four X O F A) : putX σ X O F A x g O = some (.arr 81 5 g.o (x.o.map opnRow)) := by unfold putX; rw [upd_ne _ _ h.xo.symm, upd_ne _ _ h.oa, upd_ne _ _ h.of, upd_same]
theorem putX_F (h : Four X O F A) : putX σ X O F A x g F = some (.arr 77 4 g.f (x.f.map msgRow)) := by unfold putX; rw [upd_ne _ _ h.xf.symm, upd_ne _ _ h.fa, upd_same]
theorem putX_A (h : Four X O F A) : putX σ X O F A x g A = some (.arr 30 3 g.a (x.a.map evRow)) := by unfold putX; rw [upd_ne _ _ h.xa.symm, upd_same]
theorem putX_other {k : Nat} (h1 : k ≠ X) (h2 : k ≠ O) (h3 : k ≠ F) (h4 : k ≠ A) : putX σ X O F A x g k = σ k := by unfold putX; rw [upd_ne _ _ h1, upd_ne _ _ h4, upd_ne _ _ h3, upd_ne _ _ h2]
theorem putX_upd {k : Nat} {y : Option AO} (h1 : k ≠ X) (h2 : k ≠ O) (h3 : k ≠ F) (h4 : k ≠ A) : upd (putX σ X O F A x g) k y = putX (upd σ k y) X O F A x g := by
  unfold putX; rw [upd_comm _ _ _ h1.symm, upd_comm _ _ _ h4.symm, upd_comm _ _ _ h3.symm, upd_comm _ _ _ h2.symm]
theorem upd_into {a b : Nat} {y z w : Option AO} (h : a ≠ b) : upd (upd (upd σ a y) b z) a w = upd (upd σ a w) b z := by rw [upd_comm _ _ _ h.symm, upd_idem]
theorem putX_setO (h : Four X O F A) {o' : List Opn} {go : Nat} : upd (upd (putX σ X O F A x g) O (some (.arr 81 5 go (o'.map opnRow)))) X (some (.cells 74 (xCells { x with o := o' } O F A { g with o := go }))) = putX σ X O F A { x with o := o' } { g with o := go } := by
  unfold putX
  rw [upd_comm _ _ _ h.xo, upd_idem, upd_comm _ _ _ h.oa.symm, upd_into h.of]
theorem putX_setF (h : Four X O F A) {f' : List Msg} {gf : Nat} : upd (upd (putX σ X O F A x g) F (some (.arr 77 4 gf (f'.map msgRow)))) X (some (.cells 74 (xCells { x with f := f' } O F A { g with f := gf }))) = putX σ X O F A { x with f := f' } { g with f := gf } := by
  unfold putX
  rw [upd_comm _ _ _ h.xf, upd_idem, upd_into h.fa]
theorem putX_setA (h : Four X O F A) {a' : List Ev} {ga : Nat} : upd (upd (putX σ X O F A x g) A (some (.arr 30 3 ga (a'.map evRow)))) X (some (.cells 74 (xCells { x with a := a' } O F A { g with a := ga }))) = putX σ X O F A { x with a := a' } { g with a := ga } := by
  unfold putX
  rw [upd_comm _ _ _ h.xa, upd_idem, upd_idem]
theorem putX_setC {z : Int} : upd (putX σ X O F A x g) X (some (.cells 74 (xCells { x with clock := z } O F A g))) = putX σ X O F A { x with clock := z } g := by
  unfold putX
  rw [upd_idem]
theorem putX_put (h : Four X O F A) : putX (putX σ X O F A x g) X O F A x' g' = putX σ X O F A x' g' := by
  conv => lhs; unfold putX
  unfold putX
  rw [upd_comm _ _ _ h.xo, upd_comm _ _ _ h.oa.symm, upd_into h.of, upd_comm _ _ _ h.xf, upd_into h.fa, upd_comm _ _ _ h.xa, upd_idem, upd_idem]
theorem IsX.self (h : IsX σ X O F A x g) : putX σ X O F A x g = σ := by
  unfold putX
  rw [upd_self σ O h.o, upd_self σ F h.f, upd_self σ A h.a, upd_self σ X h.n]
theorem IsX.put (h : Four X O F A) (h1 : x.v.length ≤ 1000000) (h2 : x.o.length ≤ 100000) (h3 : x.f.length ≤ 900000) (h4 : x.a.length ≤ 900000) (h5 : 0 ≤ x.clock ∧ x.clock ≤ 1000000) : IsX (putX σ X O F A x g) X O F A x g :=
  ⟨putX_X, putX_O h, putX_F h, putX_A h, h1, h2, h3, h4, h5⟩
theorem ok_opn (l : List Opn) : rowsOk 5 (l.map opnRow) = true := by simp [rowsOk, opnRow]
theorem lt_opn (c : Nat) (l : List Opn) : rowsLt c (l.map opnRow) := lt_map c opnRow (fun a => ⟨trivial, trivial, trivial, trivial, trivial, trivial⟩) l
theorem lt_x {c : Nat} (hO : O < c) (hF : F < c) (hA : A < c) : AO.lt c (.cells 74 (xCells x O F A g)) := ⟨lt_int c _, hO, hF, hA, trivial, trivial⟩
theorem cut_putX {c : Nat} (h1 : X < c) (h2 : O < c) (h3 : F < c) (h4 : A < c) : cutσ c (putX σ X O F A x g) = putX (cutσ c σ) X O F A x g := by unfold putX; rw [cutσ_old _ h1, cutσ_old _ h4, cutσ_old _ h3, cutσ_old _ h2]
theorem Stays.putX {σ0 : Nat → Option AO} {c : Nat} (hO : O < c) (hF : F < c) (hA : A < c) (h : Stays c σ0 σ) : Stays c σ0 (putX σ X O F A x g) :=
  Stays.old (lt_x hO hF hA) (Stays.old (lt_ev c _) (Stays.old (lt_msg c _) (Stays.old (lt_opn c _) h)))
end

/-- A key's place among what is open. -/
def findK (o : List Opn) (key : Int) : Nat := (o.takeWhile fun p => decide (p.e.key < key)).length
def isK (o : List Opn) (key : Int) : Bool := match o[findK o key]? with
  | some p => decide (p.e.key = key)
  | none => false
theorem findK_eq {key : Int} : ∀ {o : List Opn} {i : Nat}, i ≤ o.length → (∀ j p, j < i → o[j]? = some p → p.e.key < key) → (∀ p, o[i]? = some p → ¬ p.e.key < key) → findK o key = i
  | [], i, h, _, _ => by simp at h; subst h; rfl
  | p :: o, 0, _, _, h => by
    have := h p (by simp)
    simp [findK, this]
  | p :: o, i + 1, h, h1, h2 => by
    have hp := h1 0 p (by omega) (by simp)
    have := findK_eq (o := o) (i := i) (by simpa using h) (fun j q hj hq => h1 (j + 1) q (by omega) (by simpa using hq)) (fun q hq => h2 q (by simpa using hq))
    simp only [findK] at this ⊢
    simp [hp, this]
theorem findK_le (o : List Opn) (key : Int) : findK o key ≤ o.length := by
  induction o with
  | nil => simp [findK]
  | cons p o ih =>
    simp only [findK, List.takeWhile_cons]
    split
    · simp only [List.length_cons]; simp only [findK] at ih; omega
    · simp
end Go.Proofs.Ytilpklkgmibpgaa
