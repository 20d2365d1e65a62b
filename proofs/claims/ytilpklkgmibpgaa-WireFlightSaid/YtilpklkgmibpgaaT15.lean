/- The wire's contracts as laws use them: one wire, at the names c + 2, c + 1, c. -/
import Derived.Test.YtilpklkgmibpgaaT14
namespace Go.Proofs.Ytilpklkgmibpgaa
open Go.Ab
set_option maxHeartbeats 400000
set_option linter.unusedVariables false
set_option linter.unusedSimpArgs false

def putL (c : Nat) (σ : Nat → Option AO) (w : Wire) : Nat → Option AO := putW σ (c + 2) (c + 1) c w
theorem putL_put {c : Nat} {σ : Nat → Option AO} {w w' : Wire} : putL c (putL c σ w) w' = putL c σ w' := putW_put (by omega) (by omega) (by omega)
theorem putL_upd {c k : Nat} {σ : Nat → Option AO} {w : Wire} {x : Option AO} (h : c + 3 ≤ k) : upd (putL c σ w) k x = putL c (upd σ k x) w := putW_upd (by omega) (by omega) (by omega)
theorem putL_at {c k : Nat} {σ : Nat → Option AO} {w : Wire} (h : c + 3 ≤ k) : putL c σ w k = σ k := putW_other (by omega) (by omega) (by omega)
theorem putL_lt {c k : Nat} {σ : Nat → Option AO} {w : Wire} (h : k < c) : putL c σ w k = σ k := putW_other (by omega) (by omega) (by omega)
def none0 : Nat → Option AO := fun _ => none
theorem none0_at {k : Nat} : none0 k = none := rfl
theorem none0_kill {k : Nat} : upd none0 k none = none0 := upd_self _ _ rfl
theorem Stays.law {c : Nat} {σ0 σ : Nat → Option AO} (h : ∀ n, n < c → σ n = none) : Stays c σ0 σ := fun n o hn h1 => by rw [h n hn] at h1; cases h1
theorem lt_none0 {c n : Nat} (h : n < c) : none0 n = none := rfl

structure WOk (w : Wire) : Prop where
  vs : w.values.length ≤ 1000000
  fl : w.flight.length < 900000
  ap : w.applied.length < 900000
  ck : 0 ≤ w.clock ∧ w.clock ≤ 900000
  op : w.opens.length ≤ 100000
  nd : (w.opens.map (·.1)).Nodup
  wf : ∀ p ∈ w.opens, -9223372036854775808 ≤ p.1 ∧ p.1 ≤ 9223372036854775807
theorem WOk.keys {w : Wire} (h : WOk w) : KeysOk w := ⟨h.nd, h.wf, h.op⟩
theorem WOk.isW {w : Wire} (h : WOk w) (c : Nat) (σ : Nat → Option AO) : IsW (putL c σ w) (c + 2) (c + 1) c w :=
  IsW.put (by omega) (by omega) (by omega) h.vs (Nat.le_of_lt h.fl) (Nat.le_of_lt h.ap) ⟨h.ck.1, by have := h.ck.2; omega⟩
variable {c : Nat} {σ : Nat → Option AO} {w : Wire}
theorem lnew {vs : List Int} (hvs : vs.length ≤ 1000000) : CallA Try.prog 14 [.sl (vs.map intRow)] σ [c + 2, c + 1, c] fun x σ' => x = .ptr (c + 2) 0 ∧ σ' = putL c σ ⟨vs, 0, [], [], [], 0⟩ := call_new14 hvs (by omega) (by omega) (by omega)
theorem lnew0 : CallA Try.prog 14 [.nils] σ [c + 2, c + 1, c] fun x σ' => x = .ptr (c + 2) 0 ∧ σ' = putL c σ w00 := CallA.wk (lnew (vs := []) (by simp)) (show WkL [.nils] [.sl []] from ⟨Wk.nils, trivial⟩)
theorem lask {e : Ev} (h : WOk w) : CallA Try.prog 17 [.ptr (c + 2) 0, evAV e] (putL c σ w) [] fun x σ' => x = .tup [] ∧ σ' = putL c σ (askW w e) :=
  (call_ask17 (h.isW c σ) h.fl).mono fun x σ' ⟨h1, h2⟩ => ⟨h1, h2.trans putL_put⟩
theorem ldeliver {i : Int} (h : WOk w) : CallA Try.prog 19 [.ptr (c + 2) 0, .int .i64 i] (putL c σ w) [] fun x σ' => x = .tup [evAV (deliverW w i).1.1, .bool (deliverW w i).1.2] ∧ σ' = putL c σ (deliverW w i).2 :=
  (call_deliver19 (h.isW c σ) h.fl h.ap).mono fun x σ' ⟨h1, h2⟩ => ⟨h1, h2.trans putL_put⟩
theorem ldrop {i : Int} (h : WOk w) : CallA Try.prog 22 [.ptr (c + 2) 0, .int .i64 i] (putL c σ w) [] fun x σ' => x = .bool (decide (0 ≤ i ∧ i < w.flight.length)) ∧ σ' = putL c σ (dropW w i) :=
  (call_drop22 (h.isW c σ)).mono fun x σ' ⟨h1, h2⟩ => ⟨h1, h2.trans putL_put⟩
theorem ltwice {i : Int} (h : WOk w) : CallA Try.prog 23 [.ptr (c + 2) 0, .int .i64 i] (putL c σ w) [] fun x σ' => x = .bool (decide (0 ≤ i ∧ i < w.flight.length)) ∧ σ' = putL c σ (twiceW w i) :=
  (call_twice23 (h.isW c σ) h.fl).mono fun x σ' ⟨h1, h2⟩ => ⟨h1, h2.trans putL_put⟩
theorem lflight (h : WOk w) : CallA Try.prog 18 [.ptr (c + 2) 0] (putL c σ w) [] fun x σ' => x = .sl (w.flight.map msgRow) ∧ σ' = putL c σ w := call_flight18 (h.isW c σ)
theorem lapplied (h : WOk w) : CallA Try.prog 20 [.ptr (c + 2) 0] (putL c σ w) [] fun x σ' => x = .sl (w.applied.map evRow) ∧ σ' = putL c σ w := call_applied20 (h.isW c σ)
theorem lopen (h : WOk w) : CallA Try.prog 16 [.ptr (c + 2) 0] (putL c σ w) [] fun x σ' => x = .sl ((sortedKeys w).map intRow) ∧ σ' = putL c σ w := call_open16 (h.isW c σ) h.keys
def crashW (w : Wire) : Wire := { w with opens := [] }
def forgetW (w : Wire) (k : Int) : Wire := { w with opens := del k w.opens }
theorem lcrash (h : WOk w) : CallA Try.prog 21 [.ptr (c + 2) 0] (putL c σ w) [] fun x σ' => x = .tup [] ∧ σ' = putL c σ (crashW w) :=
  (call_crash21 (h.isW c σ)).mono fun x σ' ⟨h1, h2⟩ => ⟨h1, h2.trans putL_put⟩
theorem lforget {k : Int} (h : WOk w) : CallA Try.prog 24 [.ptr (c + 2) 0, .int .i64 k] (putL c σ w) [] fun x σ' => x = .tup [] ∧ σ' = putL c σ (forgetW w k) :=
  (call_forget24 (h.isW c σ)).mono fun x σ' ⟨h1, h2⟩ => ⟨h1, h2.trans putL_put⟩
theorem lknown : CallA Try.prog 13 [] (fun _ => none) [] fun x σ' => x = .bool true ∧ σ' = none0 := call_known13
end Go.Proofs.Ytilpklkgmibpgaa
