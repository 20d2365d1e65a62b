/- Ab15: a law's call, out of a contract: nothing that lay before it has turned. -/
import Derived.Test.YtilpklkgmibpgaaAb14
namespace Go.Ab
open Go.RowKit
set_option linter.unusedVariables false
set_option linter.unusedSimpArgs false
variable {P : Program}

def env0 (w : World) : Env := ⟨w, fun _ => .unset, fun _ => none⟩
theorem CallA.law {f : FuncId} {args : List AV} {vs : List Value} {w : World} (h : CallA P f args (fun _ => none) [] fun x _ => x = .bool true) (hv : LRel (env0 w) args vs) :
    Calls P f vs.toArray w fun e w' => e = .returned (.bool true) ∧ Below w.heap.size w w' := by
  have hs : SRel (env0 w) := ⟨fun n o hn => (by cases hn), fun n n' o o' b hn => (by cases hn)⟩
  have := h 0 w (fun _ => .unset) vs hv hs (fun _ _ => rfl) (fun n hn => (by cases hn))
  intro cs
  obtain ⟨e, w', fr, hq, hrest⟩ := callsIn_wide.1 this cs
  obtain ⟨v, x, σ', φ', rfl, h1, h2, h3, h4, h5, h6⟩ := hq
  subst h2
  obtain rfl : v = _ := h1
  refine ⟨_, w', fr, ⟨rfl, ?_⟩, hrest⟩
  exact ⟨h6.os, h6.tape, h6.output, h6.size, fun k hk => (h6.keep k hk (fun ho => by obtain ⟨n, o, e, _⟩ := ho; cases e)).1⟩
end Go.Ab
