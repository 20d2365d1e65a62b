import Derived.Test.YtilpklkgmibpgaaT1
namespace Go.Proofs.Ytilpklkgmibpgaa
open Go.Ab
set_option maxHeartbeats 400000
set_option linter.unusedVariables false
set_option linter.unusedSimpArgs false
attribute [local simp] tt3 tt4 tt9 tt22 tt24 tt30 tt31 tt36 tt42 tt55 tt57 tt63
attribute [local simp] eqA sliceEq rowsA fillR appendA AV.lt

theorem call_clone38 {rows : List (List AV)} {σ : Nat → Option AO} (hr : rowsOk 4 rows = true) (hlen : rows.length ≤ 1000000) : CallA Try.prog 38 [.sl rows] σ [] fun x σ' => x = .sl rows ∧ σ' = σ := by
  have h1 : rows.length ≤ maxLen := by simp [maxLen]; omega
  have h2 : rows.length * 40 ≤ 140737488355328 := by omega
  refine CallA.of ttok Try.func38 rfl (show 1 ≤ 8 by decide) fun c hF => ?_
  have hσ : cutσ c σ = σ := cutσ_self fun n hn => (hF.good.2 n hn : σ n = none)
  have hlt : rowsLt c rows := hF.t 0
  have hcn : upd σ c none = σ := upd_self σ c (hF.good.2 c (Nat.le_refl _))
  refine Tri.fresh ?_
  refine Tri.seqX ttok rfl (by simp; rfl) ?_
  have done : ∀ st : AS, st.σ = σ → st.ds = [] → st.ev (.tmp 2) = .sl rows → fnPost tt Try.f38 c σ (fun x σ' => x = .sl rows ∧ σ' = σ) .ret st := fun st q1 q2 q3 =>
    fnPost.tmp (.inr rfl) rfl q2 q3 hlt (by rw [q1]; exact Stays.refl _ _) ⟨rfl, by rw [q1]; exact hσ⟩
  cases rows with
  | nil =>
    refine Tri.slCase (i := 0) (by simp) ?_ ?_
    · refine Tri.seq (Tri.seqX ttok rfl (by simp [binA]; rfl) ?_)
      refine Tri.cond (by simp; rfl) (fun h => ?_) (fun h => by cases h)
      refine Tri.seqX ttok rfl (by simp; rfl) ?_
      refine Tri.wkT 2 (.sl []) (by simp; exact Wk.nils) ?_
      exact Tri.ret (done _ (by simp [hcn]) (by simp) (by simp))
    · refine Tri.seq (Tri.seqX ttok rfl (by simp [binA]; rfl) ?_)
      refine Tri.cond (by simp; rfl) (fun h => by cases h) (fun h => ?_)
      refine Tri.skip ?_
      refine Tri.seq (Tri.region ttok rfl ?_)
      refine OpsA.new c rfl (by simp; rfl) (by simp) (by simp; rfl) ?_
      refine OpsA.all (by simp; rfl) ?_
      refine Tri.freezeT 2 (by simp; rfl) (by rfl) (by simp; rfl) (by rfl) (by simp) ?_
      exact Tri.ret (done _ (by simp [hcn]) (by simp) (by simp))
  | cons r0 rs =>
    refine Tri.seq (Tri.seqX ttok rfl (by simp [binA]; rfl) ?_)
    refine Tri.cond (by simp; rfl) (fun h => by cases h) (fun h => ?_)
    refine Tri.skip ?_
    refine Tri.seq (Tri.region ttok rfl ?_)
    refine OpsA.new c rfl (by simp; rfl) (by simp) (by simp; rfl) ?_
    refine OpsA.all (by simp [hr, h1, h2, -rowsOk_cons, -List.length_cons]; rfl) ?_
    refine Tri.freezeT 2 (by simp; rfl) (by rfl) (by simp; rfl) (by rfl) (by simp) ?_
    exact Tri.ret (done _ (by simp [hcn]) (by simp) (by simp))
theorem call_clone34 {rows : List (List AV)} {σ : Nat → Option AO} (hr : rowsOk 1 rows = true) (hlen : rows.length ≤ 1000000) : CallA Try.prog 34 [.sl rows] σ [] fun x σ' => x = .sl rows ∧ σ' = σ := by
  have h1 : rows.length ≤ maxLen := by simp [maxLen]; omega
  have h2 : rows.length * 8 ≤ 140737488355328 := by omega
  refine CallA.of ttok Try.func34 rfl (show 1 ≤ 8 by decide) fun c hF => ?_
  have hσ : cutσ c σ = σ := cutσ_self fun n hn => (hF.good.2 n hn : σ n = none)
  have hlt : rowsLt c rows := hF.t 0
  have hcn : upd σ c none = σ := upd_self σ c (hF.good.2 c (Nat.le_refl _))
  refine Tri.fresh ?_
  refine Tri.seqX ttok rfl (by simp; rfl) ?_
  have done : ∀ st : AS, st.σ = σ → st.ds = [] → st.ev (.tmp 2) = .sl rows → fnPost tt Try.f34 c σ (fun x σ' => x = .sl rows ∧ σ' = σ) .ret st := fun st q1 q2 q3 =>
    fnPost.tmp (.inr rfl) rfl q2 q3 hlt (by rw [q1]; exact Stays.refl _ _) ⟨rfl, by rw [q1]; exact hσ⟩
  cases rows with
  | nil =>
    refine Tri.slCase (i := 0) (by simp) ?_ ?_
    · refine Tri.seq (Tri.seqX ttok rfl (by simp [binA]; rfl) ?_)
      refine Tri.cond (by simp; rfl) (fun h => ?_) (fun h => by cases h)
      refine Tri.seqX ttok rfl (by simp; rfl) ?_
      refine Tri.wkT 2 (.sl []) (by simp; exact Wk.nils) ?_
      exact Tri.ret (done _ (by simp [hcn]) (by simp) (by simp))
    · refine Tri.seq (Tri.seqX ttok rfl (by simp [binA]; rfl) ?_)
      refine Tri.cond (by simp; rfl) (fun h => by cases h) (fun h => ?_)
      refine Tri.skip ?_
      refine Tri.seq (Tri.region ttok rfl ?_)
      refine OpsA.new c rfl (by simp; rfl) (by simp) (by simp; rfl) ?_
      refine OpsA.all (by simp; rfl) ?_
      refine Tri.freezeT 2 (by simp; rfl) (by rfl) (by simp; rfl) (by rfl) (by simp) ?_
      exact Tri.ret (done _ (by simp [hcn]) (by simp) (by simp))
  | cons r0 rs =>
    refine Tri.seq (Tri.seqX ttok rfl (by simp [binA]; rfl) ?_)
    refine Tri.cond (by simp; rfl) (fun h => by cases h) (fun h => ?_)
    refine Tri.skip ?_
    refine Tri.seq (Tri.region ttok rfl ?_)
    refine OpsA.new c rfl (by simp; rfl) (by simp) (by simp; rfl) ?_
    refine OpsA.all (by simp [hr, h1, h2, -rowsOk_cons, -List.length_cons]; rfl) ?_
    refine Tri.freezeT 2 (by simp; rfl) (by rfl) (by simp; rfl) (by rfl) (by simp) ?_
    exact Tri.ret (done _ (by simp [hcn]) (by simp) (by simp))
theorem call_clone41 {rows : List (List AV)} {σ : Nat → Option AO} (hr : rowsOk 3 rows = true) (hlen : rows.length ≤ 1000000) : CallA Try.prog 41 [.sl rows] σ [] fun x σ' => x = .sl rows ∧ σ' = σ := by
  have h1 : rows.length ≤ maxLen := by simp [maxLen]; omega
  have h2 : rows.length * 32 ≤ 140737488355328 := by omega
  refine CallA.of ttok Try.func41 rfl (show 1 ≤ 8 by decide) fun c hF => ?_
  have hσ : cutσ c σ = σ := cutσ_self fun n hn => (hF.good.2 n hn : σ n = none)
  have hlt : rowsLt c rows := hF.t 0
  have hcn : upd σ c none = σ := upd_self σ c (hF.good.2 c (Nat.le_refl _))
  refine Tri.fresh ?_
  refine Tri.seqX ttok rfl (by simp; rfl) ?_
  have done : ∀ st : AS, st.σ = σ → st.ds = [] → st.ev (.tmp 2) = .sl rows → fnPost tt Try.f41 c σ (fun x σ' => x = .sl rows ∧ σ' = σ) .ret st := fun st q1 q2 q3 =>
    fnPost.tmp (.inr rfl) rfl q2 q3 hlt (by rw [q1]; exact Stays.refl _ _) ⟨rfl, by rw [q1]; exact hσ⟩
  cases rows with
  | nil =>
    refine Tri.slCase (i := 0) (by simp) ?_ ?_
    · refine Tri.seq (Tri.seqX ttok rfl (by simp [binA]; rfl) ?_)
      refine Tri.cond (by simp; rfl) (fun h => ?_) (fun h => by cases h)
      refine Tri.seqX ttok rfl (by simp; rfl) ?_
      refine Tri.wkT 2 (.sl []) (by simp; exact Wk.nils) ?_
      exact Tri.ret (done _ (by simp [hcn]) (by simp) (by simp))
    · refine Tri.seq (Tri.seqX ttok rfl (by simp [binA]; rfl) ?_)
      refine Tri.cond (by simp; rfl) (fun h => by cases h) (fun h => ?_)
      refine Tri.skip ?_
      refine Tri.seq (Tri.region ttok rfl ?_)
      refine OpsA.new c rfl (by simp; rfl) (by simp) (by simp; rfl) ?_
      refine OpsA.all (by simp; rfl) ?_
      refine Tri.freezeT 2 (by simp; rfl) (by rfl) (by simp; rfl) (by rfl) (by simp) ?_
      exact Tri.ret (done _ (by simp [hcn]) (by simp) (by simp))
  | cons r0 rs =>
    refine Tri.seq (Tri.seqX ttok rfl (by simp [binA]; rfl) ?_)
    refine Tri.cond (by simp; rfl) (fun h => by cases h) (fun h => ?_)
    refine Tri.skip ?_
    refine Tri.seq (Tri.region ttok rfl ?_)
    refine OpsA.new c rfl (by simp; rfl) (by simp) (by simp; rfl) ?_
    refine OpsA.all (by simp [hr, h1, h2, -rowsOk_cons, -List.length_cons]; rfl) ?_
    refine Tri.freezeT 2 (by simp; rfl) (by rfl) (by simp; rfl) (by rfl) (by simp) ?_
    exact Tri.ret (done _ (by simp [hcn]) (by simp) (by simp))

theorem call_cloneO38 {rows : List (List AV)} {σ : Nat → Option AO} {n : Nat} (hr : rowsOk 4 rows = true) (hlen : rows.length ≤ 1000000) :
    CallA Try.prog 38 [.sl rows] σ [n] fun x σ' => ∃ g, x = .os n g rows.length ∧ σ' = upd σ n (some (.arr 42 4 g rows)) := by
  have h1 : rows.length ≤ maxLen := by simp [maxLen]; omega
  have h2 : rows.length * 40 ≤ 140737488355328 := by omega
  refine CallA.of ttok Try.func38 rfl (show 1 ≤ 8 by decide) fun c hF => ?_
  have hσ : cutσ c σ = σ := cutσ_self fun n hn => (hF.good.2 n hn : σ n = none)
  have hlt : rowsLt c rows := hF.t 0
  have hnc : n < c := hF.fr n (by simp)
  refine Tri.seqX ttok rfl (by simp; rfl) ?_
  have done : ∀ (st : AS) (g : Nat), st.σ = upd σ n (some (.arr 42 4 g rows)) → st.ds = [] → st.ev (.tmp 2) = .os n g rows.length → fnPost tt Try.f38 c σ (fun x σ' => ∃ g, x = .os n g rows.length ∧ σ' = upd σ n (some (.arr 42 4 g rows))) .ret st := fun st g q1 q2 q3 =>
    fnPost.tmp (.inr rfl) rfl q2 q3 (by exact hnc) (by rw [q1]; exact Stays.old (x := .arr 42 4 g rows) hlt (Stays.refl _ _)) ⟨g, rfl, by rw [q1, cutσ_old _ hnc, hσ]⟩
  cases rows with
  | nil =>
    refine Tri.slCase (i := 0) (by simp) ?_ ?_
    · refine Tri.seq (Tri.seqX ttok rfl (by simp [binA]; rfl) ?_)
      refine Tri.cond (by simp; rfl) (fun h => ?_) (fun h => by cases h)
      refine Tri.seqX ttok rfl (by simp; rfl) ?_
      refine Tri.nilName (n := n) (i := 2) 42 4 (by simp) (by simp) ?_
      exact Tri.ret (done _ 0 (by simp) (by simp) (by simp))
    · refine Tri.seq (Tri.seqX ttok rfl (by simp [binA]; rfl) ?_)
      refine Tri.cond (by simp; rfl) (fun h => by cases h) (fun h => ?_)
      refine Tri.skip ?_
      refine Tri.seq (Tri.region ttok rfl ?_)
      refine OpsA.new n rfl (by simp; rfl) (by simp) rfl ?_
      refine OpsA.all (by simp; rfl) ?_
      exact Tri.ret (done _ 1 (by simp) (by simp) (by simp))
  | cons r0 rs =>
    refine Tri.seq (Tri.seqX ttok rfl (by simp [binA]; rfl) ?_)
    refine Tri.cond (by simp; rfl) (fun h => by cases h) (fun h => ?_)
    refine Tri.skip ?_
    refine Tri.seq (Tri.region ttok rfl ?_)
    refine OpsA.new n rfl (by simp; rfl) (by simp) rfl ?_
    refine OpsA.all (by simp [hr, h1, h2, -rowsOk_cons, -List.length_cons]; rfl) ?_
    exact Tri.ret (done _ 1 (by simp) (by simp) (by simp))

theorem call_cloneO34 {rows : List (List AV)} {σ : Nat → Option AO} {n : Nat} (hr : rowsOk 1 rows = true) (hlen : rows.length ≤ 1000000) :
    CallA Try.prog 34 [.sl rows] σ [n] fun x σ' => ∃ g, x = .os n g rows.length ∧ σ' = upd σ n (some (.arr 3 1 g rows)) := by
  have h1 : rows.length ≤ maxLen := by simp [maxLen]; omega
  have h2 : rows.length * 8 ≤ 140737488355328 := by omega
  refine CallA.of ttok Try.func34 rfl (show 1 ≤ 8 by decide) fun c hF => ?_
  have hσ : cutσ c σ = σ := cutσ_self fun n hn => (hF.good.2 n hn : σ n = none)
  have hlt : rowsLt c rows := hF.t 0
  have hnc : n < c := hF.fr n (by simp)
  refine Tri.seqX ttok rfl (by simp; rfl) ?_
  have done : ∀ (st : AS) (g : Nat), st.σ = upd σ n (some (.arr 3 1 g rows)) → st.ds = [] → st.ev (.tmp 2) = .os n g rows.length → fnPost tt Try.f34 c σ (fun x σ' => ∃ g, x = .os n g rows.length ∧ σ' = upd σ n (some (.arr 3 1 g rows))) .ret st := fun st g q1 q2 q3 =>
    fnPost.tmp (.inr rfl) rfl q2 q3 (by exact hnc) (by rw [q1]; exact Stays.old (x := .arr 3 1 g rows) hlt (Stays.refl _ _)) ⟨g, rfl, by rw [q1, cutσ_old _ hnc, hσ]⟩
  cases rows with
  | nil =>
    refine Tri.slCase (i := 0) (by simp) ?_ ?_
    · refine Tri.seq (Tri.seqX ttok rfl (by simp [binA]; rfl) ?_)
      refine Tri.cond (by simp; rfl) (fun h => ?_) (fun h => by cases h)
      refine Tri.seqX ttok rfl (by simp; rfl) ?_
      refine Tri.nilName (n := n) (i := 2) 3 1 (by simp) (by simp) ?_
      exact Tri.ret (done _ 0 (by simp) (by simp) (by simp))
    · refine Tri.seq (Tri.seqX ttok rfl (by simp [binA]; rfl) ?_)
      refine Tri.cond (by simp; rfl) (fun h => by cases h) (fun h => ?_)
      refine Tri.skip ?_
      refine Tri.seq (Tri.region ttok rfl ?_)
      refine OpsA.new n rfl (by simp; rfl) (by simp) rfl ?_
      refine OpsA.all (by simp; rfl) ?_
      exact Tri.ret (done _ 1 (by simp) (by simp) (by simp))
  | cons r0 rs =>
    refine Tri.seq (Tri.seqX ttok rfl (by simp [binA]; rfl) ?_)
    refine Tri.cond (by simp; rfl) (fun h => by cases h) (fun h => ?_)
    refine Tri.skip ?_
    refine Tri.seq (Tri.region ttok rfl ?_)
    refine OpsA.new n rfl (by simp; rfl) (by simp) rfl ?_
    refine OpsA.all (by simp [hr, h1, h2, -rowsOk_cons, -List.length_cons]; rfl) ?_
    exact Tri.ret (done _ 1 (by simp) (by simp) (by simp))

theorem call_cloneS41 {rows : List (List AV)} {σ : Nat → Option AO} {n g : Nat} (hn : σ n = some (.arr 30 3 g rows)) (hr : rowsOk 3 rows = true) (hlen : rows.length ≤ 1000000) :
    CallA Try.prog 41 [.os n g rows.length] σ [] fun x σ' => x = .sl rows ∧ σ' = σ := by
  have h1 : rows.length ≤ maxLen := by simp [maxLen]; omega
  have h2 : rows.length * 32 ≤ 140737488355328 := by omega
  refine CallA.of ttok Try.func41 rfl (show 1 ≤ 8 by decide) fun c hF => ?_
  have hσ : cutσ c σ = σ := cutσ_self fun n hn => (hF.good.2 n hn : σ n = none)
  have hlt : rowsLt c rows := (hF.σ n _ hn).2
  have hnc : n < c := (hF.σ n _ hn).1
  have nec : n ≠ c := by omega
  have hcn : upd σ c none = σ := upd_self σ c (hF.good.2 c (Nat.le_refl _))
  refine Tri.fresh ?_
  refine Tri.seqX ttok rfl (by simp; rfl) ?_
  have done : ∀ st : AS, st.σ = σ → st.ds = [] → st.ev (.tmp 2) = .sl rows → fnPost tt Try.f41 c σ (fun x σ' => x = .sl rows ∧ σ' = σ) .ret st := fun st q1 q2 q3 =>
    fnPost.tmp (.inr rfl) rfl q2 q3 hlt (by rw [q1]; exact Stays.refl _ _) ⟨rfl, by rw [q1]; exact hσ⟩
  cases rows with
  | nil =>
    refine Tri.osCase (i := 0) (n := n) (g := g) (T := 30) (e := 3) (rows := []) (by simp) (by simp [hn]) ?_ ?_
    · refine Tri.seq (Tri.seqX ttok rfl (by simp [binA]; rfl) ?_)
      refine Tri.cond (by simp; rfl) (fun h => ?_) (fun h => by cases h)
      refine Tri.seqX ttok rfl (by simp; rfl) ?_
      refine Tri.wkT 2 (.sl []) (by simp; exact Wk.nils) ?_
      exact Tri.ret (done _ (by simp [hcn]) (by simp) (by simp))
    · refine Tri.seq (Tri.seqX ttok rfl (by simp [binA]; rfl) ?_)
      refine Tri.cond (by simp; rfl) (fun h => by cases h) (fun h => ?_)
      refine Tri.skip ?_
      refine Tri.seq (Tri.region ttok rfl ?_)
      refine OpsA.new c rfl (by simp; rfl) (by simp) (by simp; rfl) ?_
      refine OpsA.all (by simp; rfl) ?_
      refine Tri.freezeT 2 (by simp; rfl) (by rfl) (by simp; rfl) (by rfl) (by simp) ?_
      exact Tri.ret (done _ (by simp [hcn]) (by simp) (by simp))
  | cons r0 rs =>
    have hrl : (r0 :: rs).length = rs.length + 1 := rfl
    refine Tri.seq (Tri.seqX ttok rfl (by simp [binA, hn] <;> rfl) ?_)
    refine Tri.cond (by simp; rfl) (fun h => by cases h) (fun h => ?_)
    refine Tri.skip ?_
    refine Tri.seq (Tri.region ttok rfl ?_)
    refine OpsA.new c rfl (by simp; rfl) (by simp) (by simp; rfl) ?_
    have hsrc : srcA (upd σ c (some (.arr 30 3 0 []))) 3 (.os n g (rs.length + 1)) = some (r0 :: rs) := by
      simp [srcA, nec, hn]
    refine OpsA.all (by simp [hr, h1, h2, hsrc, -rowsOk_cons, -List.length_cons] <;> rfl) ?_
    refine Tri.freezeT 2 (by simp; rfl) (by rfl) (by simp; rfl) (by rfl) (by simp) ?_
    exact Tri.ret (done _ (by simp [hcn]) (by simp) (by simp))
end Go.Proofs.Ytilpklkgmibpgaa
