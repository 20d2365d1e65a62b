/- Ab12: .. in one order: the theorem. -/
import Derived.Test.YtilpklkgmibpgaaAb11
namespace Go.Ab
open Go.RowKit
set_option linter.unusedVariables false
set_option linter.unusedSimpArgs false
variable {P : Program} {tt : Nat → Option TI} {r : Option Nat}

def depsOf (ops : Array Oper) (i : Nat) : List Nat :=
  (List.range ops.size).foldl (fun D j => if j == i then j :: D else match ops[j]? with
    | some o => if o.after.any (fun e => Region.binds .any e && D.contains e.on) then j :: D else D
    | none => D) []

/-- What can come up only behind an operation. -/
def depsOk (ops : Array Oper) (listed : Array Bool) (i : Nat) (D : List Nat) : Bool :=
  D.contains i && D.all fun j => listed.getD j true == false && (j == i || match ops[j]? with
    | some o => o.after.any fun e => Region.binds .any e && D.contains e.on
    | none => false)

def takeOk (ops : Array Oper) (listed : Array Bool) (i : Nat) : Bool :=
  match ops[i]? with
  | none => false
  | some oi =>
    let D := depsOf ops i
    (Region.ready .any ops listed).contains i && depsOk ops listed i D &&
      (List.range ops.size).all fun j => D.contains j || listed.getD j true || (valOp oi.op && match ops[j]? with
        | some oj => swOk oi oj && oi.apart ops oj
        | none => true)

theorem dep_notReady {ops : Array Oper} {listed : Array Bool} {i j : Nat} {D : List Nat} (h : depsOk ops listed i D = true) (hj : j ∈ D) (hne : j ≠ i) : j ∉ Region.ready .any ops listed := by
  intro hr
  simp only [depsOk, Bool.and_eq_true, List.all_eq_true] at h
  obtain ⟨_, h⟩ := h
  have h1 := (h j hj).2
  obtain ⟨_, o, ho, hall⟩ := mem_ready.1 hr
  simp only [Bool.or_eq_true, beq_iff_eq, hne, false_or, ho] at h1
  obtain ⟨e, he, hb⟩ := Array.any_eq_true'.1 h1
  simp only [Bool.and_eq_true, List.contains_eq_mem, decide_eq_true_eq] at hb
  have h2 := hall e he hb.1
  have h3 := (h e.on hb.2).1
  simp only [beq_iff_eq] at h3
  rcases Nat.lt_or_ge e.on listed.size with k | k
  · simp [k] at h2 h3; rw [h2] at h3; cases h3
  · simp [Array.getElem?_eq_none k] at h2

theorem depsOk_set {ops : Array Oper} {listed : Array Bool} {i j : Nat} {D : List Nat} (h : depsOk ops listed i D = true) (hj : j ∉ D) : depsOk ops (listed.setIfInBounds j true) i D = true := by
  simp only [depsOk, Bool.and_eq_true, List.all_eq_true] at h ⊢
  refine ⟨h.1, fun k hk => ⟨?_, (h.2 k hk).2⟩⟩
  have := (h.2 k hk).1
  rw [getD_set_ne (i := j) (j := k) true (fun e => hj (by rw [e]; exact hk))]
  exact this

theorem Good.put {st : AS} {d : Option Tmp} {x : AV} (h : Good st) : Good (st.put d x) := by
  cases d <;> exact h

theorem AnyA.take {ops : Array Oper} {i : Nat} {oi : Oper} (hi : ops[i]? = some oi) {D : List Nat} : ∀ {f : Nat} {listed : Array Bool} {st : AS} {x : AV} {K : AS → Prop},
    i ∈ Region.ready .any ops listed → depsOk ops listed i D = true → (∀ j oj, ops[j]? = some oj → j ∉ D → listed.getD j true = false → swOk oi oj = true ∧ oi.apart ops oj = true) →
    YieldA tt (ops.toList.map (·.dst)) st oi x → AnyA P tt ops (ops.toList.map (·.dst)) f (listed.setIfInBounds i true) (st.put oi.dst x) K → AnyA P tt ops (ops.toList.map (·.dst)) (f + 1) listed st K := by
  intro f
  induction f with
  | zero =>
    intro listed st x K hr hD hsw hy H hg
    refine ⟨fun e => (by rw [e] at hr; cases hr), fun j hj => ?_⟩
    by_cases hji : j = i
    · subst hji; exact ⟨oi, hi, hy.op H⟩
    · have := ready_mono hj hji
      rw [H.1] at this
      cases this
  | succ f ih =>
    intro listed st x K hr hD hsw hy H hg
    refine ⟨fun e => (by rw [e] at hr; cases hr), fun j hj => ?_⟩
    by_cases hji : j = i
    · subst hji; exact ⟨oi, hi, hy.op H⟩
    · have hjD : j ∉ D := fun hd => dep_notReady hD hd hji hj
      obtain ⟨oj, hoj, h2⟩ := (H hg.put).2 j (ready_mono hj hji)
      obtain ⟨s1, s2⟩ := hsw j oj hoj hjD (mem_ready.1 hj).1
      refine ⟨oj, hoj, OpA.mono ?_ (swap s1 s2 hg hy h2)⟩
      rintro s ⟨hys, hk⟩
      refine ih (ready_mono hr (Ne.symm hji)) (depsOk_set hD hjD) (fun k ok hk' hkD hun => ?_) hys ?_
      · refine hsw k ok hk' hkD ?_
        by_cases hjk : j = k
        · subst hjk; exact (mem_ready.1 hj).1
        · rw [getD_set_ne true hjk] at hun; exact hun
      · rw [Array.setIfInBounds_comm _ _ hji]; exact hk

theorem AnyA.only {ops : Array Oper} {i : Nat} {oi : Oper} (hi : ops[i]? = some oi) {D : List Nat} {f : Nat} {listed : Array Bool} {st : AS} {K : AS → Prop} (hr : i ∈ Region.ready .any ops listed) (hD : depsOk ops listed i D = true)
    (hall : ∀ j oj, ops[j]? = some oj → j ∉ D → listed.getD j true = true)
    (H : OpA P tt (ops.toList.map (·.dst)) st oi fun s => AnyA P tt ops (ops.toList.map (·.dst)) f (listed.setIfInBounds i true) s K) : AnyA P tt ops (ops.toList.map (·.dst)) (f + 1) listed st K := by
  intro hg
  refine ⟨fun e => (by rw [e] at hr; cases hr), fun j hj => ?_⟩
  by_cases hji : j = i
  · subst hji; exact ⟨oi, hi, H⟩
  · obtain ⟨hun, oj, hoj, _⟩ := mem_ready.1 hj
    by_cases hd : j ∈ D
    · exact absurd hj (dep_notReady hD hd hji)
    · rw [hall j oj hoj hd] at hun; cases hun

theorem AnyA.take1 {ops : Array Oper} {i : Nat} {oi : Oper} (hi : ops[i]? = some oi) {f : Nat} {listed : Array Bool} {st : AS} {K : AS → Prop} (hok : takeOk ops listed i = true)
    (H : OpA P tt (ops.toList.map (·.dst)) st oi fun s => AnyA P tt ops (ops.toList.map (·.dst)) f (listed.setIfInBounds i true) s K) : AnyA P tt ops (ops.toList.map (·.dst)) (f + 1) listed st K := by
  unfold takeOk at hok
  rw [hi] at hok
  simp only [Bool.and_eq_true, List.all_eq_true, List.mem_range, Bool.or_eq_true] at hok
  obtain ⟨⟨h1, h2⟩, h3⟩ := hok
  have hr : i ∈ Region.ready .any ops listed := by simpa using h1
  by_cases hv : valOp oi.op = true
  · obtain ⟨x, hy, hk⟩ := OpA.val hv H
    refine AnyA.take hi hr h2 (fun j oj hoj hjD hun => ?_) hy hk
    have := h3 j (Array.getElem?_eq_some_iff.1 hoj).1
    rw [hoj] at this
    rcases this with (k | k) | k
    · exact absurd (by simpa using k) hjD
    · rw [hun] at k; cases k
    · have k2 := k.2; simpa [Bool.and_eq_true] using k2
  · refine AnyA.only hi hr h2 (fun j oj hoj hjD => ?_) H
    have := h3 j (Array.getElem?_eq_some_iff.1 hoj).1
    rcases this with (k | k) | k
    · exact absurd (by simpa using k) hjD
    · exact k
    · exact absurd k.1 hv

/-- A call that hands back one value, whatever the store, and turns nothing. -/
def YieldC (P : Program) (st : AS) (o : Oper) (x : AV) : Prop :=
  o.guard = none ∧ ∃ k args, callA st.ev o.op = some (k, args) ∧ okT P k = true ∧ ∀ σ, CallT P k args σ [] fun y σ' => y = x ∧ σ' = σ
theorem YieldC.op {ds : List (Option Tmp)} {st : AS} {o : Oper} {K : AS → Prop} {x : AV} (h : YieldC P st o x) (hk : K (st.put o.dst x)) : OpA P tt ds st o K := by
  obtain ⟨hg, k, args, h1, h2, h3⟩ := h
  unfold OpA
  rw [hg]
  refine .inr (.inr (.inr ⟨k, args, [], _, h1, h2, h3 st.σ, (fun n hn => (by cases hn)), ?_⟩))
  rintro y σ' ⟨rfl, rfl⟩
  have : (st.fr.filter fun n => !([] : List Nat).contains n) = st.fr := by simp
  rw [this]
  exact hk
theorem YieldC.keep {ops : Array Oper} {st s : AS} {oi oj : Oper} {x : AV} (hap : oi.apart ops oj = true) (hy : YieldC P st oi x) (hf : Fr st oj s) : YieldC P s oi x := by
  obtain ⟨a1, a2, a3⟩ := Oper.apart_spec hap
  obtain ⟨hg, k, args, h1, h2, h3⟩ := hy
  refine ⟨hg, k, args, ?_, h2, h3⟩
  rw [← h1]
  refine callA_congr fun y hy => ?_
  cases y with
  | tmp i => exact hf.t i fun e => looksAt_op (a3 i e) hy
  | const v => rfl
  | global g => rfl
  | func f => rfl
theorem AnyA.takeC' {ops : Array Oper} {i : Nat} {oi : Oper} (hi : ops[i]? = some oi) {D : List Nat} : ∀ {f : Nat} {listed : Array Bool} {st : AS} {x : AV} {K : AS → Prop},
    i ∈ Region.ready .any ops listed → depsOk ops listed i D = true → (∀ j oj, ops[j]? = some oj → j ∉ D → listed.getD j true = false → oi.apart ops oj = true) →
    YieldC P st oi x → AnyA P tt ops (ops.toList.map (·.dst)) f (listed.setIfInBounds i true) (st.put oi.dst x) K → AnyA P tt ops (ops.toList.map (·.dst)) (f + 1) listed st K := by
  intro f
  induction f with
  | zero =>
    intro listed st x K hr hD hsw hy H hg
    refine ⟨fun e => (by rw [e] at hr; cases hr), fun j hj => ?_⟩
    by_cases hji : j = i
    · subst hji; exact ⟨oi, hi, hy.op H⟩
    · have := ready_mono hj hji
      rw [H.1] at this
      cases this
  | succ f ih =>
    intro listed st x K hr hD hsw hy H hg
    refine ⟨fun e => (by rw [e] at hr; cases hr), fun j hj => ?_⟩
    by_cases hji : j = i
    · subst hji; exact ⟨oi, hi, hy.op H⟩
    · have hjD : j ∉ D := fun hd => dep_notReady hD hd hji hj
      obtain ⟨oj, hoj, h2⟩ := (H hg.put).2 j (ready_mono hj hji)
      have s2 := hsw j oj hoj hjD (mem_ready.1 hj).1
      obtain ⟨a1, a2, a3⟩ := Oper.apart_spec s2
      refine ⟨oj, hoj, OpA.mono ?_ (OpA.frame (OpA.put a1 a2 h2))⟩
      rintro s ⟨hk, hfr⟩
      refine ih (ready_mono hr (Ne.symm hji)) (depsOk_set hD hjD) (fun k ok hk' hkD hun => ?_) (hy.keep s2 hfr) ?_
      · refine hsw k ok hk' hkD ?_
        by_cases hjk : j = k
        · subst hjk; exact (mem_ready.1 hj).1
        · rw [getD_set_ne true hjk] at hun; exact hun
      · rw [Array.setIfInBounds_comm _ _ hji]; exact hk
def takeCOk (ops : Array Oper) (listed : Array Bool) (i : Nat) : Bool :=
  match ops[i]? with
  | none => false
  | some oi =>
    let D := depsOf ops i
    (Region.ready .any ops listed).contains i && depsOk ops listed i D &&
      (List.range ops.size).all fun j => D.contains j || listed.getD j true || match ops[j]? with
        | some oj => oi.apart ops oj
        | none => true
theorem AnyA.takeC {ops : Array Oper} (i : Nat) {oi : Oper} (hi : ops[i]? = some oi) {f : Nat} {listed : Array Bool} {st : AS} {x : AV} {K : AS → Prop} (hok : takeCOk ops listed i = true) (hy : YieldC P st oi x)
    (H : AnyA P tt ops (ops.toList.map (·.dst)) f (listed.setIfInBounds i true) (st.put oi.dst x) K) : AnyA P tt ops (ops.toList.map (·.dst)) (f + 1) listed st K := by
  unfold takeCOk at hok
  rw [hi] at hok
  simp only [Bool.and_eq_true, List.all_eq_true, List.mem_range, Bool.or_eq_true] at hok
  obtain ⟨⟨h1, h2⟩, h3⟩ := hok
  have hr : i ∈ Region.ready .any ops listed := by simpa using h1
  refine AnyA.takeC' hi hr h2 (fun j oj hoj hjD hun => ?_) hy H
  have := h3 j (Array.getElem?_eq_some_iff.1 hoj).1
  rw [hoj] at this
  rcases this with (k | k) | k
  · exact absurd (by simpa using k) hjD
  · rw [hun] at k; cases k
  · exact k

def takesOk (ops : Array Oper) : Array Bool → List Nat → Bool
  | _, [] => true
  | listed, i :: rest => takeOk ops listed i && takesOk ops (listed.setIfInBounds i true) rest
def listAll (listed : Array Bool) (ord : List Nat) : Array Bool := ord.foldl (fun l i => l.setIfInBounds i true) listed

theorem AnyA.takes {ops : Array Oper} : ∀ {ord : List Nat} {listed : Array Bool} {f : Nat} {st : AS} {K : AS → Prop}, takesOk ops listed ord = true →
    OpsA P tt (ops.toList.map (·.dst)) (ord.filterMap fun i => ops[i]?) st (fun s => AnyA P tt ops (ops.toList.map (·.dst)) f (listAll listed ord) s K) → AnyA P tt ops (ops.toList.map (·.dst)) (ord.length + f) listed st K
  | [], listed, f, st, K, _, h => by
    simp only [List.filterMap_nil, OpsA, listAll, List.foldl_nil] at h
    simpa using h
  | i :: rest, listed, f, st, K, hok, h => by
    simp only [takesOk, Bool.and_eq_true] at hok
    cases hi : ops[i]? with
    | none => have := hok.1; simp [takeOk, hi] at this
    | some oi =>
      simp only [List.filterMap_cons, hi] at h
      have e : (i :: rest).length + f = (rest.length + f) + 1 := by simp; omega
      rw [e]
      exact AnyA.take1 hi hok.1 (OpA.mono (fun s hs => AnyA.takes hok.2 hs) h)

/-- A region that draws, walked in one order. -/
def drawOk (l : List Oper) (ord : List Nat) : Bool :=
  takesOk l.toArray (Array.replicate l.length false) ord && (ord.length == l.length) && (Region.ready .any l.toArray (listAll (Array.replicate l.length false) ord)).isEmpty
theorem Tri.drawn (ht : TTok P tt) (hmix : P.follows .mixedOrders = true) {id : Nat} {l : List Oper} {st : AS} {Q : Exit → AS → Prop} (ord : List Nat) (hok : drawOk l ord = true) (hd : dstOk st.m l = true)
    (h : OpsA P tt (l.map (·.dst)) (ord.filterMap fun i => l[i]?) st (Q .normal)) : Tri r P (.region id l.toArray true) st Q := by
  simp only [drawOk, Bool.and_eq_true, beq_iff_eq, List.isEmpty_iff] at hok
  obtain ⟨⟨h1, h2⟩, h3⟩ := hok
  refine Tri.draw ht hmix hd ?_
  have e : l.length = ord.length + 0 := by omega
  have hl : (l.toArray.toList.map (·.dst)) = l.map (·.dst) := rfl
  rw [e, ← hl]
  rw [e] at h1 h3
  refine AnyA.takes (by simpa using h1) ?_
  have hf : (fun i : Nat => l.toArray[i]?) = fun i : Nat => l[i]? := by funext i; simp
  rw [hf]
  refine (?_ : ∀ {os : List Oper} {s : AS} {K K' : AS → Prop}, (∀ s, K s → K' s) → OpsA P tt (l.map (·.dst)) os s K → OpsA P tt (l.map (·.dst)) os s K') (fun s hs => ⟨by simpa using h3, hs⟩) h
  intro os
  induction os with
  | nil => intro s K K' hk hh; exact hk _ hh
  | cons o os ih => intro s K K' hk hh; exact OpA.mono (fun s' hs' => ih hk hs') hh

/-- All is listed. -/
theorem AnyA.done {ops : Array Oper} {ds : List (Option Tmp)} {listed : Array Bool} {st : AS} {K : AS → Prop} (h : (Region.ready .any ops listed).isEmpty = true) (hk : K st) : AnyA P tt ops ds 0 listed st K := ⟨by simpa using h, hk⟩
/-- What may come up now, one after the other. -/
theorem AnyA.branch {ops : Array Oper} {ds : List (Option Tmp)} {f : Nat} {listed : Array Bool} {st : AS} {K : AS → Prop} (rs : List Nat) (hr : (Region.ready .any ops listed == rs) = true) (hne : rs ≠ [])
    (h : ∀ i, i ∈ rs → ∃ o, ops[i]? = some o ∧ OpA P tt ds st o fun s => AnyA P tt ops ds f (listed.setIfInBounds i true) s K) : AnyA P tt ops ds (f + 1) listed st K := by
  intro _
  have e : Region.ready .any ops listed = rs := by simpa using hr
  rw [e]
  exact ⟨fun e' => absurd e' hne, h⟩
theorem AnyA.branch2 {ops : Array Oper} {ds : List (Option Tmp)} {f : Nat} {listed : Array Bool} {st : AS} {K : AS → Prop} (i j : Nat) {oi oj : Oper} (hr : (Region.ready .any ops listed == [i, j]) = true) (hi : ops[i]? = some oi) (hj : ops[j]? = some oj)
    (h1 : OpsA P tt ds [oi] st fun s => AnyA P tt ops ds f (listed.setIfInBounds i true) s K) (h2 : OpsA P tt ds [oj] st fun s => AnyA P tt ops ds f (listed.setIfInBounds j true) s K) : AnyA P tt ops ds (f + 1) listed st K :=
  AnyA.branch [i, j] hr (by simp) fun k hk => by
    simp only [List.mem_cons, List.not_mem_nil, or_false] at hk
    rcases hk with rfl | rfl
    · exact ⟨oi, hi, h1⟩
    · exact ⟨oj, hj, h2⟩
theorem AnyA.branch3 {ops : Array Oper} {ds : List (Option Tmp)} {f : Nat} {listed : Array Bool} {st : AS} {K : AS → Prop} (i j l : Nat) {oi oj ol : Oper} (hr : (Region.ready .any ops listed == [i, j, l]) = true) (hi : ops[i]? = some oi) (hj : ops[j]? = some oj) (hl : ops[l]? = some ol)
    (h1 : OpsA P tt ds [oi] st fun s => AnyA P tt ops ds f (listed.setIfInBounds i true) s K) (h2 : OpsA P tt ds [oj] st fun s => AnyA P tt ops ds f (listed.setIfInBounds j true) s K) (h3 : OpsA P tt ds [ol] st fun s => AnyA P tt ops ds f (listed.setIfInBounds l true) s K) : AnyA P tt ops ds (f + 1) listed st K :=
  AnyA.branch [i, j, l] hr (by simp) fun k hk => by
    simp only [List.mem_cons, List.not_mem_nil, or_false] at hk
    rcases hk with rfl | rfl | rfl
    · exact ⟨oi, hi, h1⟩
    · exact ⟨oj, hj, h2⟩
    · exact ⟨ol, hl, h3⟩
/-- One that may be taken ahead. -/
theorem AnyA.step {l : List Oper} {f : Nat} {listed : Array Bool} {st : AS} {K : AS → Prop} (i : Nat) {oi : Oper} (hi : l.toArray[i]? = some oi) (hok : takeOk l.toArray listed i = true)
    (h : OpsA P tt (l.map (·.dst)) [oi] st fun s => AnyA P tt l.toArray (l.map (·.dst)) f (listed.setIfInBounds i true) s K) : AnyA P tt l.toArray (l.map (·.dst)) (f + 1) listed st K :=
  AnyA.take1 hi hok h
/-- A drawing region, walked by hand: first what may be taken in one order. -/
theorem Tri.drawn' (ht : TTok P tt) (hmix : P.follows .mixedOrders = true) {id : Nat} {l : List Oper} {st : AS} {Q : Exit → AS → Prop} (ord : List Nat) (f : Nat) (hf : ord.length + f = l.length) (hok : takesOk l.toArray (Array.replicate l.length false) ord = true) (hd : dstOk st.m l = true)
    (h : OpsA P tt (l.map (·.dst)) (ord.filterMap fun i => l[i]?) st fun s => AnyA P tt l.toArray (l.map (·.dst)) f (listAll (Array.replicate l.length false) ord) s (Q .normal)) : Tri r P (.region id l.toArray true) st Q := by
  refine Tri.draw ht hmix hd ?_
  have key := AnyA.takes (P := P) (tt := tt) (ops := l.toArray) (f := f) (st := st) (K := Q .normal) hok (by
    have hf : (fun i : Nat => l.toArray[i]?) = fun i : Nat => l[i]? := by funext i; simp
    rw [hf]; exact h)
  rw [hf] at key
  exact key
/-- .. and on in one order. -/
theorem AnyA.rest {l : List Oper} {listed : Array Bool} {st : AS} {K : AS → Prop} (ord : List Nat) {f : Nat} (hf : ord.length = f) (hok : takesOk l.toArray listed ord = true) (hend : (Region.ready .any l.toArray (listAll listed ord)).isEmpty = true)
    (h : OpsA P tt (l.map (·.dst)) (ord.filterMap fun i => l[i]?) st K) : AnyA P tt l.toArray (l.map (·.dst)) f listed st K := by
  have key := AnyA.takes (P := P) (tt := tt) (ops := l.toArray) (f := 0) (st := st) (K := K) hok (by
    have hf : (fun i : Nat => l.toArray[i]?) = fun i : Nat => l[i]? := by funext i; simp
    rw [hf]
    refine (?_ : ∀ {os : List Oper} {s : AS} {K K' : AS → Prop}, (∀ s, K s → K' s) → OpsA P tt (l.map (·.dst)) os s K → OpsA P tt (l.map (·.dst)) os s K') (fun s hs => AnyA.done hend hs) h
    intro os
    induction os with
    | nil => intro s K K' hk hh; exact hk _ hh
    | cons o os ih => intro s K K' hk hh; exact OpA.mono (fun s' hs' => ih hk hs') hh)
  rw [Nat.add_zero, hf] at key
  exact key

end Go.Ab
