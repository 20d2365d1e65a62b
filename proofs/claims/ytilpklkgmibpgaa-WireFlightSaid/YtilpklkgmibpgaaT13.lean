import Derived.Test.YtilpklkgmibpgaaT11
import Derived.Test.YtilpklkgmibpgaaT12
namespace Go.Proofs.Ytilpklkgmibpgaa
open Go.Ab Go.Maps Go.Shelf Go.RowKit
set_option maxHeartbeats 1000000
set_option linter.unusedVariables false
set_option linter.unusedSimpArgs false

theorem Ext.below {w w' : World} {φ : Nat → Ref} {σ : Nat → Option AO} (h : Below w.heap.size w w') : Ext ⟨w, φ, σ⟩ ⟨w', φ, σ⟩ :=
  ⟨h.os, h.tape, h.output, h.size, fun _ => Ref.le_refl _, fun b hb ho => ⟨h.block b hb, ho⟩⟩
theorem SRel.below {w w' : World} {φ : Nat → Ref} {σ : Nat → Option AO} (hs : SRel ⟨w, φ, σ⟩) (h : Below w.heap.size w w') : SRel ⟨w', φ, σ⟩ :=
  ⟨fun n o hn => (hs.obj n o hn).mono (Ext.below h) rfl (fun b hb => h.block b ((hs.obj n o hn).lt hb)), hs.inj⟩
/-- A new row of whole numbers, told by value. -/
theorem ownsRow_rel {w w' : World} {φ : Nat → Ref} {σ : Nat → Option AO} (hs : SRel ⟨w, φ, σ⟩) {T : TypeId} {v : Value} {zs : List Int} (h : w'.ownsRow w.heap.size T 1 v zs.length (zs.map encZ)) : VRel ⟨w', φ, σ⟩ (.sl (zs.map intRow)) v := by
  have hl : (zs.map intRow).length = zs.length := by simp
  rcases h.2 with ⟨rfl, h0⟩ | ⟨g, cap, cur, rfl, hb, hg, h1, h2, h3, h4⟩
  · have : zs = [] := List.eq_nil_of_length_eq_zero h0
    subst this
    exact ⟨none, 0, rfl, Nat.le_refl _, .inl ⟨rfl, fun _ => rfl⟩⟩
  · refine ⟨_, cap, by rw [hl], by rw [hl]; exact h1, .inr ⟨g, 0, 1, rfl, (Array.getElem?_eq_some_iff.1 hg).1, fun ho => ?_, RowsAt.of_get fun i r hi => ?_⟩⟩
    · have := hs.own_lt (b := g) ho
      exact Nat.not_lt.2 hb this
    · rw [List.getElem?_map] at hi
      cases hq : zs[i]? with
      | none => rw [hq] at hi; cases hi
      | some z =>
        rw [hq] at hi
        cases hi
        refine ⟨rfl, ⟨_, ?_, rfl⟩, trivial⟩
        show w'.cell? _ = some (Value.int .i64 z)
        rw [cell_of_row _ _ _ _ _ _ hg]
        have : (cur.toList.take (zs.length * 1))[i]? = some (encZ z) := by rw [h4, List.getElem?_map, hq]; rfl
        rw [List.getElem?_take] at this
        split at this
        · simpa using this
        · cases this

theorem sortsA (m : Nat) : AnyZI.SortsIn Try.prog Try.sortedA_ren Fence.wide m :=
  ⟨fun blk off cap ss W hH hblk hsz => callsIn_wide.2 (AnyM.slices_Sort_int Try.sortA blk off cap ss W hH hblk hsz),
   fun p cap W => callsIn_wide.2 (AnyM.slices_Sort_int_none Try.sortA p cap W)⟩

theorem call_sorted35 {σ : Nat → Option AO} {B M : Nat} {es : List (Int × AV)} (hB : σ B = some (.cells 55 [.map M])) (hM : σ M = some (.imap es)) (hnd : (es.map (·.1)).Nodup) (hwf : ∀ p ∈ es, -9223372036854775808 ≤ p.1 ∧ p.1 ≤ 9223372036854775807) (hlen : es.length ≤ 100000) :
    CallA Try.prog 35 [.fn (.func 54) [] [.ptr B 0]] σ [] fun x σ' => x = .sl (((es.map (·.1)).mergeSort fun x y => decide (x ≤ y)).map intRow) ∧ σ' = σ := by
  intro c w φ vs hvs hs hfr _
  obtain ⟨v, vs', rfl, ⟨fs', cs', rfl, hfs, hcs⟩, rfl⟩ := hvs
  have hfs' : fs' = #[] := by
    have : fs'.toList = [] := hfs
    simpa using this
  obtain ⟨u, us, e, ⟨b, hb, rfl⟩, rfl⟩ := hcs
  have hcs' : cs' = #[.pointer (some ⟨b, 0, none⟩)] := by apply Array.ext'; simpa using e
  subst hfs' hcs'
  obtain ⟨b', xs, hb', hcell, _, ⟨⟨u, hu, mb, hmb, rfl⟩, _⟩⟩ := hs.obj B _ hB
  replace hb : φ B = .blk b := hb
  replace hb' : φ B = .blk b' := hb'
  rw [hb] at hb'; cases hb'
  obtain ⟨mb', D, hmb', hown, hperm, hsize⟩ := ownsMap_of (P := Try.prog) (K := 3) Try.underlying3 (hs.obj M _ hM) hnd hwf (by simp only [maxLen]; omega)
  replace hmb : φ M = .blk mb := hmb
  replace hmb' : φ M = .blk mb' := hmb'
  rw [hmb] at hmb'; cases hmb'
  have hbl : b < w.heap.size := World.block_lt_of_cell? _ ⟨b, 0, none⟩ hu
  have hseq : SeqGives Fence.wide 2 Try.prog 54 #[.pointer (some ⟨b, 0, none⟩)] encZ (fun ss => ss.Perm (intKeys D)) (Maps.size D) w :=
    AnyZI.keys_gives (ρ := Try.keysA_ren) { Try.keysA with } Fence.wide _ trivial rfl (by omega) b mb es.length D _ hbl hu hown
  have cS := AnyZI.sorted_in Try.sortedA Fence.wide 5 trivial trivial trivial trivial rfl (by omega) (sortsA _) (enters_of Try.func53 (by kernel_rfl) rfl) 54 #[.pointer (some ⟨b, 0, none⟩)] trivial (enters_of Try.func54 (by kernel_rfl) rfl) _ _ (by rw [hsize]; simp only [maxLen]; omega) (by rw [hsize]; omega) _ hseq
  change CallsIn _ _ Try.prog 35 _ _ _ at cS
  refine (callsIn_wide.2 (callsIn_wide.1 cS) : CallsIn Fence.wide 0 Try.prog 35 _ _ _).mono ?_
  rintro e w' ⟨v, ss, rfl, hS, hrow, hnil, hbe⟩
  have hsrt : (ss.mergeSort fun x y => decide (x ≤ y)) = ((es.map (·.1)).mergeSort fun x y => decide (x ≤ y)) := mergeSort_of_perm_i (hS.trans hperm)
  rw [hsrt] at hrow
  have hln : ss.length = ((es.map (·.1)).mergeSort fun x y => decide (x ≤ y)).length := by rw [← hsrt]; simp
  rw [hln] at hrow
  exact ⟨v, _, σ, φ, rfl, ownsRow_rel hs hrow, ⟨rfl, rfl⟩, SRel.below hs hbe, hfr, fun _ _ _ h => h, Ext.below hbe⟩

attribute [local simp] tt3 tt4 tt9 tt22 tt24 tt30 tt31 tt36 tt42 tt55 tt57 tt63
attribute [local simp] AV.lt

def sortedKeys (w : Wire) : List Int := (w.opens.map (·.1)).mergeSort fun x y => decide (x ≤ y)
structure KeysOk (w : Wire) : Prop where
  nodup : (w.opens.map (·.1)).Nodup
  wf : ∀ p ∈ w.opens, -9223372036854775808 ≤ p.1 ∧ p.1 ≤ 9223372036854775807
  len : w.opens.length ≤ 100000

theorem call_open16 {σ : Nat → Option AO} {N M K : Nat} {w : Wire} (hw : IsW σ N M K w) (hk : KeysOk w) : CallA Try.prog 16 [.ptr N 0] σ [] fun x σ' => x = .sl ((sortedKeys w).map intRow) ∧ σ' = σ := by
  refine CallA.of ttok Try.func16 rfl (show 1 ≤ 10 by decide) fun c hF => ?_
  have hσ : cutσ c σ = σ := cutσ_self fun n hn => (hF.good.2 n hn : σ n = none)
  have hn := hw.n
  have hMc : M < c := (hF.σ M _ hw.m).1
  have m0 : M ≠ c := by omega
  refine Tri.fresh ?_
  refine Tri.seqX ttok rfl (by simp <;> rfl) ?_
  refine Tri.seq (Tri.region ttok rfl ?_)
  refine OpsA.runX 4 (by simp [hn, wireCells] <;> rfl) ?_
  simp only [List.drop]
  refine OpsA.call (call_keys36 (B := c) (M := M) (by simp [hw.m])) rfl (by simp <;> rfl) (by kernel_rfl) (by simp) rfl ?_
  rintro x σ' ⟨rfl, rfl⟩
  have he : (openEs w).map (·.1) = w.opens.map (·.1) := by simp [openEs, Function.comp_def]
  refine OpsA.call (call_sorted35 (B := c) (M := M) (es := openEs w) (by simp) (by simp [m0, hw.m]) (by rw [he]; exact hk.nodup) (fun p hp => by
    obtain ⟨q, hq, rfl⟩ := List.mem_map.1 hp
    exact hk.wf q hq) (by simpa [openEs] using hk.len)) rfl (by simp <;> rfl) (by kernel_rfl) (by simp) rfl ?_
  rintro x σ' ⟨rfl, rfl⟩
  rw [he]
  refine OpsA.call (call_clone34 (ok_int (sortedKeys w)) (by have := hk.len; simp [sortedKeys]; omega)) rfl (by simp [sortedKeys] <;> rfl) (by kernel_rfl) (by simp) rfl ?_
  rintro x σ' ⟨rfl, rfl⟩
  refine OpsA.all (by simp <;> rfl) ?_
  exact Tri.ret (fnPost.tmp (.inr rfl) rfl (by rfl) (by simp <;> rfl) (by exact lt_int c _) (by simp; exact Stays.new (Nat.le_refl _) (Stays.refl _ _)) ⟨rfl, by simp [cutσ_new, hσ]⟩)
end Go.Proofs.Ytilpklkgmibpgaa
