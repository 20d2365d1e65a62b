/- The wire and the document's wire: each step keeps them alike (plain lists). -/
import Derived.Test.YtilpklkgmibpgaaT32
namespace Go.Proofs.Ytilpklkgmibpgaa
open Go.Ab
set_option maxHeartbeats 400000
set_option linter.unusedVariables false
set_option linter.unusedSimpArgs false

def toA (q : Opn) : Int × Asking := (q.e.key, ⟨q.e.name, q.time, q.wait⟩)
structure Rel (w : Wire) (x : RW) : Prop where
  v : x.v = w.values
  f : x.f = w.flight
  a : x.a = w.applied
  ck : x.clock = w.clock
  so : (x.o.map fun p => p.e.key).Pairwise (· < ·)
  pm : w.opens.Perm (x.o.map toA)
  z : ∀ q ∈ x.o, q.e.value = 0
  z2 : ∀ m ∈ x.f, m.back = false → m.ev.value = 0

theorem sorted_eq : ∀ {l1 l2 : List Int}, l1.Pairwise (· ≤ ·) → l2.Pairwise (· ≤ ·) → l1.Perm l2 → l1 = l2
  | [], l2, _, _, p => p.nil_eq
  | a :: l1, [], _, _, p => by have := p.length_eq; simp at this
  | a :: l1, b :: l2, h1, h2, p => by
    have ha : a ∈ b :: l2 := p.subset (List.mem_cons_self ..)
    have hb : b ∈ a :: l1 := p.symm.subset (List.mem_cons_self ..)
    rw [List.pairwise_cons] at h1 h2
    have hab : a = b := by
      rcases List.mem_cons.1 ha with e | ha
      · exact e
      rcases List.mem_cons.1 hb with e | hb
      · exact e.symm
      have := h1.1 _ hb
      have := h2.1 _ ha
      omega
    subst hab
    rw [sorted_eq h1.2 h2.2 p.cons_inv]

theorem Rel.keys {w : Wire} {x : RW} (h : Rel w x) : (w.opens.map (·.1)).Perm (x.o.map fun p => p.e.key) := by
  have := h.pm.map (·.1)
  rw [List.map_map] at this
  exact this
theorem Rel.nd {w : Wire} {x : RW} (h : Rel w x) : (w.opens.map (·.1)).Nodup :=
  h.keys.nodup_iff.2 (h.so.imp fun hab => Int.ne_of_lt hab)
theorem Rel.sorted {w : Wire} {x : RW} (h : Rel w x) : sortedKeys w = x.o.map fun p => p.e.key := by
  refine sorted_eq ?_ (h.so.imp fun hab => Int.le_of_lt hab) ((List.mergeSort_perm _ _).trans h.keys)
  have : (sortedKeys w).Pairwise (fun x y => decide (x ≤ y) = true) := List.pairwise_mergeSort (fun a b c h1 h2 => by simp at *; omega) (fun a b => by simp; omega) _
  exact this.imp fun hab => by simpa using hab

theorem split_at (key : Int) : ∀ {o : List Opn}, ∃ l1 l2, o = l1 ++ l2 ∧ findK o key = l1.length ∧ (∀ q ∈ l1, q.e.key < key) ∧ (∀ q, l2.head? = some q → ¬ q.e.key < key)
  | [] => ⟨[], [], rfl, rfl, fun q hq => (by cases hq), fun q hq => (by cases hq)⟩
  | p :: o => by
    by_cases hp : p.e.key < key
    · obtain ⟨l1, l2, e, e2, h1, h2⟩ := split_at key (o := o)
      refine ⟨p :: l1, l2, by rw [e]; rfl, ?_, ?_, h2⟩
      · simp only [findK, List.takeWhile_cons, hp, decide_true, if_true, List.length_cons] at e2 ⊢
        rw [e2]
      · intro q hq
        rcases List.mem_cons.1 hq with rfl | hq
        · exact hp
        · exact h1 q hq
    · exact ⟨[], p :: o, rfl, by simp [findK, hp], fun q hq => (by cases hq), fun q hq => by cases hq; exact hp⟩
/-- A key's place: what is ahead of it, what is behind it. -/
theorem split_k {o : List Opn} (key : Int) (so : (o.map fun p => p.e.key).Pairwise (· < ·)) :
    ∃ l1 l2, o = l1 ++ l2 ∧ findK o key = l1.length ∧ (∀ q ∈ l1, q.e.key < key) ∧
      ((isK o key = false ∧ ∀ q ∈ l2, key < q.e.key) ∨ (isK o key = true ∧ ∃ p l3, l2 = p :: l3 ∧ p.e.key = key ∧ ∀ q ∈ l3, key < q.e.key)) := by
  obtain ⟨l1, l2, e, e2, h1, h2⟩ := split_at key (o := o)
  refine ⟨l1, l2, e, e2, h1, ?_⟩
  subst e
  rw [List.map_append, List.pairwise_append] at so
  cases l2 with
  | nil => exact .inl ⟨by simp only [isK, e2]; rw [List.getElem?_eq_none (by simp)], fun q hq => (by cases hq)⟩
  | cons p l3 =>
    have hp := h2 p rfl
    have s2 := so.2.1
    rw [List.map_cons, List.pairwise_cons] at s2
    have hl3 : ∀ q ∈ l3, p.e.key < q.e.key := fun q hq => s2.1 _ (List.mem_map_of_mem hq)
    by_cases hk : p.e.key = key
    · exact .inr ⟨by simp [isK, e2, hk], p, l3, rfl, hk, fun q hq => by rw [← hk]; exact hl3 q hq⟩
    · refine .inl ⟨by simp [isK, e2, hk], fun q hq => ?_⟩
      rcases List.mem_cons.1 hq with rfl | hq
      · omega
      · have := hl3 q hq; omega
theorem Rel.has {w : Wire} {x : RW} (h : Rel w x) (k : Int) : hasO w k = isK x.o k := by
  have e : ∀ q : Int × Asking, q ∈ w.opens ↔ q ∈ x.o.map toA := fun q => h.pm.mem_iff
  obtain ⟨l1, l2, e1, e2, h1, h2⟩ := split_k k h.so
  rcases h2 with ⟨h2, h3⟩ | ⟨h2, p, l3, h3, h4, h5⟩
  · rw [h2, hasO, List.any_eq_false]
    intro q hq
    obtain ⟨p, hp, rfl⟩ := List.mem_map.1 ((e q).1 hq)
    rw [e1] at hp
    rw [decide_eq_true_eq]
    show ¬ p.e.key = k
    rcases List.mem_append.1 hp with hp | hp
    · have := h1 p hp; omega
    · have := h3 p hp; omega
  · rw [h2, hasO, List.any_eq_true]
    exact ⟨toA p, (e _).2 (List.mem_map_of_mem (by rw [e1, h3]; simp)), by simp [toA, h4]⟩

theorem Rel.ask {w : Wire} {x : RW} (h : Rel w x) (e : Ev) : Rel (askW w e) (askX x e) := by
  obtain ⟨l1, l2, e1, e2, h1, h2⟩ := split_k e.key h.so
  unfold askW askX
  rw [h.has]
  rcases h2 with ⟨h2, h3⟩ | ⟨h2, _⟩
  · rw [h2, if_neg (by simp), if_neg (by simp)]
    have so := h.so
    have pm := h.pm
    have z := h.z
    rw [e1] at so pm z
    rw [List.map_append, List.pairwise_append] at so
    have et : x.o.take (findK x.o e.key) = l1 := by rw [e2, e1]; simp
    have ed : x.o.drop (findK x.o e.key) = l2 := by rw [e2, e1]; simp
    refine ⟨h.v, by simp [h.f], h.a, h.ck, ?_, ?_, ?_, ?_⟩
    · simp only [et, ed, List.map_append, List.map_cons, List.map_nil]
      rw [List.pairwise_append, List.pairwise_append]
      refine ⟨⟨so.1, List.pairwise_singleton _ _, ?_⟩, so.2.1, ?_⟩
      · intro a ha b hb
        obtain ⟨q, hq, rfl⟩ := List.mem_map.1 ha
        simp only [List.mem_singleton] at hb
        subst hb
        exact h1 q hq
      · intro a ha b hb
        obtain ⟨q, hq, rfl⟩ := List.mem_map.1 hb
        rcases List.mem_append.1 ha with ha | ha
        · exact so.2.2 a ha _ (List.mem_map_of_mem hq)
        · simp only [List.mem_singleton] at ha
          subst ha
          exact h3 q hq
    · simp only [et, ed, List.map_append, List.map_cons, List.map_nil]
      rw [List.map_append] at pm
      refine (List.Perm.append_right _ pm).trans ?_
      rw [show toA ⟨⟨e.name, e.key, 0⟩, x.clock + 1, 1⟩ = (e.key, ⟨e.name, w.clock + 1, 1⟩) by simp [toA, h.ck]]
      rw [List.append_assoc, List.append_assoc]
      exact List.Perm.append_left _ List.perm_append_comm
    · simp only [et, ed]
      intro q hq
      simp only [List.mem_append, List.mem_singleton] at hq
      rcases hq with (hq | rfl) | hq
      · exact z q (by simp [hq])
      · rfl
      · exact z q (by simp [hq])
    · intro m hm hb
      simp only [List.mem_append, List.mem_singleton] at hm
      rcases hm with hm | rfl
      · exact h.z2 m hm hb
      · rfl
  · rw [h2, if_pos rfl, if_pos rfl]; exact h

theorem del_perm {k : Int} {a : Asking} : ∀ {l : List (Int × Asking)}, (l.map (·.1)).Nodup → (k, a) ∈ l → l.Perm ((k, a) :: del k l)
  | [], _, h => by cases h
  | p :: l, nd, h => by
    rw [List.map_cons, List.nodup_cons] at nd
    simp only [del]
    split
    · rename_i hk
      rcases List.mem_cons.1 h with rfl | h
      · exact List.Perm.refl _
      · exact absurd (hk ▸ List.mem_map_of_mem (f := (·.1)) h) nd.1
    · rename_i hk
      rcases List.mem_cons.1 h with rfl | h
      · exact absurd rfl hk
      · exact ((del_perm nd.2 h).cons p).trans (List.Perm.swap _ _ _)
theorem setO_perm {k : Int} {a b : Asking} : ∀ {l : List (Int × Asking)}, (l.map (·.1)).Nodup → (k, a) ∈ l → (setO k b l).Perm ((k, b) :: del k l)
  | [], _, h => by cases h
  | p :: l, nd, h => by
    rw [List.map_cons, List.nodup_cons] at nd
    simp only [del, setO]
    split
    · exact List.Perm.refl _
    · rename_i hk
      rcases List.mem_cons.1 h with rfl | h
      · exact absurd rfl hk
      · exact ((setO_perm nd.2 h).cons p).trans (List.Perm.swap _ _ _)
theorem del_not {k : Int} : ∀ {l : List (Int × Asking)}, (∀ p ∈ l, p.1 ≠ k) → del k l = l
  | [], _ => rfl
  | p :: l, h => by
    simp only [del]
    rw [if_neg (fun e => h p (List.mem_cons_self ..) e.symm), del_not fun q hq => h q (List.mem_cons_of_mem _ hq)]
theorem getO_get {k : Int} {a : Asking} {l : List (Int × Asking)} (nd : (l.map (·.1)).Nodup) (h : (k, a) ∈ l) : getO k l = some a := by
  induction l with
  | nil => cases h
  | cons p l ih =>
    rw [List.map_cons, List.nodup_cons] at nd
    simp only [getO]
    split
    · rename_i hk
      rcases List.mem_cons.1 h with rfl | h
      · rfl
      · exact absurd (hk ▸ List.mem_map_of_mem (f := (·.1)) h) nd.1
    · rename_i hk
      rcases List.mem_cons.1 h with rfl | h
      · exact absurd rfl hk
      · exact ih nd.2 h

theorem Rel.forget {w : Wire} {x : RW} (h : Rel w x) (k : Int) : Rel (forgetW w k) (forgetX x k) := by
  obtain ⟨l1, l2, e1, e2, h1, h2⟩ := split_k k h.so
  unfold forgetW forgetX
  rcases h2 with ⟨h2, h3⟩ | ⟨h2, p, l3, rfl, h4, h5⟩
  · rw [h2, if_neg (by simp), del_not]
    · exact h
    · intro q hq
      obtain ⟨p, hp, rfl⟩ := List.mem_map.1 (h.pm.mem_iff.1 hq)
      rw [e1] at hp
      simp only [toA]
      rcases List.mem_append.1 hp with hp | hp
      · have := h1 p hp; omega
      · have := h3 p hp; omega
  · rw [h2, if_pos rfl, e2]
    have ee : x.o.eraseIdx l1.length = l1 ++ l3 := by rw [e1, ← eraseIdx_eq]; simp
    rw [ee]
    have so := h.so
    have pm := h.pm
    have z := h.z
    rw [e1] at so pm z
    have hp : toA p = (k, ⟨p.e.name, p.time, p.wait⟩) := by simp [toA, h4]
    refine ⟨h.v, h.f, h.a, h.ck, ?_, ?_, ?_, h.z2⟩
    · refine so.sublist ?_
      exact ((List.Sublist.refl l1).append (List.sublist_cons_self p l3)).map _
    · show (del k w.opens).Perm _
      have hin : (k, (⟨p.e.name, p.time, p.wait⟩ : Asking)) ∈ w.opens := pm.mem_iff.2 (by rw [← hp]; exact List.mem_map_of_mem (by simp))
      have q1 := (del_perm h.nd hin).symm.trans pm
      rw [List.map_append, List.map_cons, hp] at q1
      rw [List.map_append]
      exact (q1.trans List.perm_middle).cons_inv
    · intro q hq
      refine z q ?_
      simp only [List.mem_append, List.mem_cons] at hq ⊢
      rcases hq with hq | hq
      · exact .inl hq
      · exact .inr (.inr hq)

theorem Rel.crash {w : Wire} {x : RW} (h : Rel w x) : Rel (crashW w) { x with o := [] } :=
  ⟨h.v, h.f, h.a, h.ck, List.Pairwise.nil, List.Perm.refl _, fun q hq => (by cases hq), h.z2⟩
theorem Rel.drop {w : Wire} {x : RW} (h : Rel w x) (i : Int) : Rel (dropW w i) (dropX x i) := by
  unfold dropW dropX
  rw [h.f]
  split
  · exact ⟨h.v, rfl, h.a, h.ck, h.so, h.pm, h.z, fun m hm hb => h.z2 m (by rw [h.f]; exact (List.eraseIdx_sublist ..).subset hm) hb⟩
  · exact h
theorem Rel.twice {w : Wire} {x : RW} (h : Rel w x) (i : Int) : Rel (twiceW w i) (twiceX x i) := by
  unfold twiceW twiceX
  rw [h.f]
  cases hm : (if 0 ≤ i then w.flight[i.toNat]? else none) with
  | some m =>
    refine ⟨h.v, rfl, h.a, h.ck, h.so, h.pm, h.z, fun q hq hb => ?_⟩
    simp only [List.mem_append, List.mem_singleton] at hq
    rcases hq with hq | rfl
    · exact h.z2 q (by rw [h.f]; exact hq) hb
    · split at hm
      · exact h.z2 q (by rw [h.f]; exact List.mem_of_getElem? hm) hb
      · cases hm
  | none => exact h
theorem Rel.value {w : Wire} {x : RW} (h : Rel w x) (e : Ev) (he : e.value = 0) : valX x e = valueOf w e ∧ Rel (valueW w e) (applyX x e) := by
  have hg : ∀ n : Nat, w.values[n]?.getD 0 = w.values.getD n 0 := fun n => (List.getD_eq_getElem?_getD ..).symm
  cases hf : w.applied.find? (fun a => decide (a.key = e.key)) with
  | some a =>
    have hx : x.a.find? (fun a => decide (a.key = e.key)) = some a := by rw [h.a]; exact hf
    exact ⟨by simp only [valX, valueOf, hf, hx], by simp only [valueW, applyX, hf, hx]; exact h⟩
  | none =>
    have hx : x.a.find? (fun a => decide (a.key = e.key)) = none := by rw [h.a]; exact hf
    have hh : x.v[x.a.length]?.getD 0 = w.values.getD w.applied.length 0 := by rw [h.v, h.a, hg]
    refine ⟨by simp only [valX, valueOf, hf, hx, he, hh], ?_⟩
    simp only [valueW, applyX, hf, hx, he, hh]
    exact ⟨h.v, h.f, by simp [h.a], h.ck, h.so, h.pm, h.z, h.z2⟩
theorem Rel.deliver {w : Wire} {x : RW} (h : Rel w x) (i : Int) : (deliverX x i).1 = (deliverW w i).1 ∧ Rel (deliverW w i).2 (deliverX x i).2 := by
  unfold deliverW deliverX
  rw [h.f]
  cases hm : (if 0 ≤ i then w.flight[i.toNat]? else none) with
  | none => exact ⟨rfl, h⟩
  | some m =>
    have hmem : m ∈ x.f := by
      split at hm
      · rw [h.f]; exact List.mem_of_getElem? hm
      · cases hm
    have hd := h.drop i
    cases hb : m.back with
    | false =>
      simp only [hb, Bool.false_eq_true, if_false]
      obtain ⟨q1, q2⟩ := hd.value m.ev (h.z2 m hmem hb)
      refine ⟨trivial, q2.v, ?_, q2.a, q2.ck, q2.so, q2.pm, q2.z, ?_⟩
      · simp [q2.f, q1]
      · intro p hp hpb
        simp only [List.mem_append, List.mem_singleton] at hp
        rcases hp with hp | rfl
        · exact q2.z2 p hp hpb
        · cases hpb
    | true =>
      simp only [hb, if_true, hd.has]
      split
      · exact ⟨rfl, hd.forget m.ev.key⟩
      · exact ⟨rfl, hd⟩

theorem again_e (clk : Int) (p : Opn) : (againX clk p).e = p.e := by unfold againX; split <;> rfl
theorem again_keys (clk : Int) (l : List Opn) : (l.map (againX clk)).map (fun p => p.e.key) = l.map fun p => p.e.key := by
  rw [List.map_map]; exact List.map_congr_left fun p _ => by simp [again_e]
theorem toA_keys (l : List Opn) : (l.map toA).map (·.1) = l.map fun p => p.e.key := by rw [List.map_map]; rfl
theorem tick_fold {clk : Int} : ∀ (l2 l1 : List Opn) (w : Wire), ((l1 ++ l2).map fun p => p.e.key).Pairwise (· < ·) → (∀ q ∈ l2, q.e.value = 0) → w.clock = clk → w.opens.Perm ((l1.map (againX clk) ++ l2).map toA) →
    (tickAll w (l2.map fun p => p.e.key)).opens.Perm (((l1 ++ l2).map (againX clk)).map toA) ∧ (tickAll w (l2.map fun p => p.e.key)).flight = w.flight ++ dueF clk l2 ∧ (tickAll w (l2.map fun p => p.e.key)).clock = clk ∧
      (tickAll w (l2.map fun p => p.e.key)).values = w.values ∧ (tickAll w (l2.map fun p => p.e.key)).applied = w.applied
  | [], l1, w, so, hz, hc, hp => by
    refine ⟨?_, by simp [tickAll, dueF], hc, rfl, rfl⟩
    simpa [tickAll] using hp
  | p :: l2, l1, w, so, hz, hc, hp => by
    have nd : (w.opens.map (·.1)).Nodup := by
      refine (hp.map (·.1)).nodup_iff.2 ?_
      rw [toA_keys, List.map_append, again_keys, ← List.map_append]
      exact so.imp fun hab => Int.ne_of_lt hab
    have hin : (p.e.key, (⟨p.e.name, p.time, p.wait⟩ : Asking)) ∈ w.opens := hp.mem_iff.2 (List.mem_map.2 ⟨p, by simp, rfl⟩)
    have hget := getO_get nd hin
    have hstep : tickAll w ((p :: l2).map fun p => p.e.key) = tickAll (tick1 w p.e.key) (l2.map fun p => p.e.key) := rfl
    rw [hstep]
    have so' : (((l1 ++ [p]) ++ l2).map fun p => p.e.key).Pairwise (· < ·) := by simpa using so
    have hz' : ∀ q ∈ l2, q.e.value = 0 := fun q hq => hz q (List.mem_cons_of_mem _ hq)
    by_cases hd : p.time = clk
    · have e1 : tick1 w p.e.key = again w p.e.key ⟨p.e.name, p.time, p.wait⟩ := by simp [tick1, hget, hd, hc]
      have q1 : (del p.e.key w.opens).Perm ((l1.map (againX clk)).map toA ++ l2.map toA) := by
        have q := (del_perm nd hin).symm.trans hp
        rw [List.map_append, List.map_cons, show toA p = (p.e.key, ⟨p.e.name, p.time, p.wait⟩) from rfl] at q
        exact (q.trans List.perm_middle).cons_inv
      have q2 : (again w p.e.key ⟨p.e.name, p.time, p.wait⟩).opens.Perm (((l1 ++ [p]).map (againX clk) ++ l2).map toA) := by
        refine (setO_perm nd hin).trans ?_
        rw [show (p.e.key, (⟨p.e.name, w.clock + min (2 * p.wait) 8, min (2 * p.wait) 8⟩ : Asking)) = toA (againX clk p) by simp [toA, againX, hd, hc]]
        refine (q1.cons _).trans ?_
        simp only [List.map_append, List.map_cons, List.map_nil, List.append_assoc, List.cons_append, List.nil_append]
        exact List.perm_middle.symm
      obtain ⟨i1, i2, i3, i4, i5⟩ := tick_fold l2 (l1 ++ [p]) (again w p.e.key ⟨p.e.name, p.time, p.wait⟩) so' hz' hc q2
      rw [e1]
      refine ⟨by simpa using i1, ?_, i3, i4, i5⟩
      rw [i2]
      have hv := hz p (List.mem_cons_self ..)
      have he : (⟨p.e.name, p.e.key, 0⟩ : Ev) = p.e := by rw [← hv]
      simp [again, dueF, hd, he]
    · have e1 : tick1 w p.e.key = w := by simp [tick1, hget, hd, hc]
      have ea : againX clk p = p := by simp [againX, hd]
      obtain ⟨i1, i2, i3, i4, i5⟩ := tick_fold l2 (l1 ++ [p]) w so' hz' hc (by simpa [ea] using hp)
      rw [e1]
      refine ⟨by simpa using i1, ?_, i3, i4, i5⟩
      rw [i2]
      simp [dueF, hd]
theorem Rel.tick {w : Wire} {x : RW} (h : Rel w x) : Rel (tickW w) (tickX x) := by
  obtain ⟨i1, i2, i3, i4, i5⟩ := tick_fold (clk := w.clock + 1) x.o [] { w with clock := w.clock + 1 } (by simpa using h.so) h.z rfl (by simpa using h.pm)
  have e : tickW w = tickAll { w with clock := w.clock + 1 } (x.o.map fun p => p.e.key) := by unfold tickW; rw [h.sorted]
  rw [e]
  refine ⟨by rw [i4]; exact h.v, ?_, by rw [i5]; exact h.a, ?_, ?_, ?_, ?_, ?_⟩
  · rw [i2]; simp [tickX, h.f, h.ck]
  · rw [i3]; simp [tickX, h.ck]
  · show ((x.o.map (againX (x.clock + 1))).map fun p => p.e.key).Pairwise _
    rw [again_keys]; exact h.so
  · show _root_.List.Perm _ ((x.o.map (againX (x.clock + 1))).map toA)
    rw [h.ck]; simpa using i1
  · intro q hq
    obtain ⟨p, hp, rfl⟩ := List.mem_map.1 (show q ∈ x.o.map (againX (x.clock + 1)) from hq)
    rw [again_e]; exact h.z p hp
  · intro m hm hb
    rcases List.mem_append.1 (show m ∈ x.f ++ dueF (x.clock + 1) x.o from hm) with hm | hm
    · exact h.z2 m hm hb
    · simp only [dueF, List.mem_map, List.mem_filter] at hm
      obtain ⟨p, ⟨hp, _⟩, rfl⟩ := hm
      exact h.z p hp
end Go.Proofs.Ytilpklkgmibpgaa
