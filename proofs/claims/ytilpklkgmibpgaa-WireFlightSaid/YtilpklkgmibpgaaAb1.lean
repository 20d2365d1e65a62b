/- Ab1: states, and the rules on code: a row, a test, a block, a loop, a way out; a function's contract out of its body. -/
import Derived.Test.YtilpklkgmibpgaaAb0
import Derived.LoopNIn
import Derived.OrdersIn
import Derived.RangeFuncSeq
import Derived.RangeFuncRecord
namespace Go.Ab
open Go.RowKit
set_option linter.unusedVariables false
set_option linter.unusedSimpArgs false

structure AS where
  t : Nat → AV
  σ : Nat → Option AO
  c : Nat
  fr : List Nat
  m : Nat
  ds : List Nat

def marks (φ : Nat → Ref) : List Nat → List Deferred → Prop
  | [], l => l = []
  | n :: ns, l => ∃ b l', φ n = .blk b ∧ l = { target := .collected b, args := #[] } :: l' ∧ marks φ ns l'

theorem marks.mono {R R' : Env} (h : Ext R R') : ∀ {ns : List Nat} {l : List Deferred}, marks R.φ ns l → marks R'.φ ns l
  | [], _, k => k
  | n :: ns, _, k => by obtain ⟨b, l', h1, h2, h3⟩ := k; exact ⟨b, l', h.set h1, h2, marks.mono h h3⟩

structure CRel (st : AS) (a : Act) (w : World) (φ : Nat → Ref) : Prop where
  slot : ∀ i, VRel ⟨w, φ, st.σ⟩ (st.t i) (a.tmps.getD i undef)
  size : a.tmps.size = st.m
  defers : marks φ st.ds a.defers
  store : SRel ⟨w, φ, st.σ⟩
  fresh : ∀ n, st.c ≤ n → φ n = .unset
  free : ∀ n, n ∈ st.fr → n < st.c ∧ φ n = .unset

def fen (r : Option Nat) : Fence := { fn := fun _ => True, depth := none, alive := false, round := r }
theorem fen_none : fen none = Fence.wide := rfl
theorem fen_inRound (r : Option Nat) (l : Nat) : (fen r).inRound l = fen (some l) := rfl
theorem fen_room (r : Option Nat) (n : Nat) : (fen r).room n := fun d h => by simp [fen] at h

/-- How a state goes on: the store as 'Ext' says; no name is set but new ones, and those that were free. -/
structure Evo (st0 : AS) (w0 : World) (φ0 : Nat → Ref) (st : AS) (w : World) (φ : Nat → Ref) : Prop where
  ext : Ext ⟨w0, φ0, st0.σ⟩ ⟨w, φ, st.σ⟩
  c_le : st0.c ≤ st.c
  fr_sub : ∀ n, n ∈ st.fr → n < st0.c → n ∈ st0.fr
  unset : ∀ n, n < st0.c → n ∉ st0.fr → φ0 n = .unset → φ n = .unset
theorem Evo.refl (st : AS) (w : World) (φ : Nat → Ref) : Evo st w φ st w φ := ⟨Ext.refl _, Nat.le_refl _, fun _ h _ => h, fun _ _ _ h => h⟩
theorem Evo.trans {s0 s1 s2 : AS} {w0 w1 w2 : World} {φ0 φ1 φ2 : Nat → Ref} (h : Evo s0 w0 φ0 s1 w1 φ1) (k : Evo s1 w1 φ1 s2 w2 φ2) : Evo s0 w0 φ0 s2 w2 φ2 :=
  ⟨h.ext.trans k.ext, Nat.le_trans h.c_le k.c_le, fun n hn hl => h.fr_sub n (k.fr_sub n hn (Nat.lt_of_lt_of_le hl h.c_le)) hl, fun n h1 h2 h3 => k.unset n (Nat.lt_of_lt_of_le h1 h.c_le) (fun e => h2 (h.fr_sub n e h1)) (h.unset n h1 h2 h3)⟩

/-- What a piece of code comes to, told of states. -/
def cpost (st0 : AS) (w0 : World) (φ0 : Nat → Ref) (Q : Exit → AS → Prop) : Exit → Act → World → Prop :=
  fun e a w => ∃ st φ, Q e st ∧ CRel st a w φ ∧ Evo st0 w0 φ0 st w φ

def Tri (r : Option Nat) (P : Program) (c : Code) (st : AS) (Q : Exit → AS → Prop) : Prop :=
  ∀ a w φ, CRel st a w φ → c.wpIn (fen r) 0 P (cpost st w φ Q) a w

/-- What follows, where a piece of code has come to its end. -/
def thenQ (K : AS → Prop) (Q : Exit → AS → Prop) : Exit → AS → Prop
  | .normal, st => K st
  | .panic _, _ => False
  | .outgrown, _ => False
  | e, st => Q e st
def blockQ (id : Nat) (Q : Exit → AS → Prop) : Exit → AS → Prop
  | .exit id', st => if id' = id then Q .normal st else Q (.exit id') st
  | e, st => Q e st

variable {r : Option Nat} {P : Program}

theorem Tri.mono {c : Code} {st : AS} {Q Q' : Exit → AS → Prop} (h : Tri r P c st Q) (hq : ∀ e st, Q e st → Q' e st) : Tri r P c st Q' :=
  fun a w φ hr => wpIn_mono (h a w φ hr) fun _ _ _ ⟨st', φ', h1, h2, h3⟩ => ⟨st', φ', hq _ _ h1, h2, h3⟩

theorem Tri.skip {st : AS} {Q : Exit → AS → Prop} (h : Q .normal st) : Tri r P .skip st Q := fun _ _ φ hr => wpIn_skip ⟨st, φ, h, hr, Evo.refl _ _ _⟩
theorem Tri.label {l : Nat} {st : AS} {Q : Exit → AS → Prop} (h : Q .normal st) : Tri r P (.label l) st Q := fun _ _ φ hr => wpIn_label ⟨st, φ, h, hr, Evo.refl _ _ _⟩
theorem Tri.exit {id : Nat} {st : AS} {Q : Exit → AS → Prop} (h : Q (.exit id) st) : Tri r P (.exit id) st Q := fun _ _ φ hr => wpIn_exit ⟨st, φ, h, hr, Evo.refl _ _ _⟩
theorem Tri.ret {st : AS} {Q : Exit → AS → Prop} (h : Q .ret st) : Tri r P .ret st Q := fun _ _ φ hr => wpIn_ret ⟨st, φ, h, hr, Evo.refl _ _ _⟩
theorem Tri.goto {l : Nat} {st : AS} {Q : Exit → AS → Prop} (h : Q (.goto l) st) : Tri r P (.goto l) st Q := fun _ _ φ hr => wpIn_goto ⟨st, φ, h, hr, Evo.refl _ _ _⟩

theorem Tri.seq {x y : Code} {st : AS} {Q : Exit → AS → Prop} (h : Tri r P x st (thenQ (fun st' => Tri r P y st' Q) Q)) : Tri r P (.seq x y) st Q := by
  intro a w φ hr
  refine wpIn_seq (wpIn_mono (h a w φ hr) ?_)
  rintro e a1 w1 ⟨st1, φ1, h1, h2, h3⟩
  cases e with
  | normal =>
    exact wpIn_mono (h1 a1 w1 φ1 h2) fun e a2 w2 ⟨st2, φ2, k1, k2, k3⟩ => ⟨st2, φ2, k1, k2, h3.trans k3⟩
  | exit id => exact ⟨st1, φ1, h1, h2, h3⟩
  | goto l => exact ⟨st1, φ1, h1, h2, h3⟩
  | ret => exact ⟨st1, φ1, h1, h2, h3⟩
  | panic ch => exact h1.elim
  | outgrown => exact h1.elim

theorem Tri.block {id : Nat} {c : Code} {st : AS} {Q : Exit → AS → Prop} (h : Tri r P c st (blockQ id Q)) : Tri r P (.block id c) st Q := by
  intro a w φ hr
  refine wpIn_block (wpIn_mono (h a w φ hr) ?_)
  rintro e a1 w1 ⟨st1, φ1, h1, h2, h3⟩
  cases e with
  | exit id' =>
    simp only [Exit.inBlock]
    simp only [blockQ] at h1
    split at h1
    · rename_i hid; simp only [hid, if_true]; exact ⟨st1, φ1, h1, h2, h3⟩
    · rename_i hid; simp only [hid, if_false]; exact ⟨st1, φ1, h1, h2, h3⟩
  | normal => exact ⟨st1, φ1, h1, h2, h3⟩
  | goto l => exact ⟨st1, φ1, h1, h2, h3⟩
  | ret => exact ⟨st1, φ1, h1, h2, h3⟩
  | panic ch => exact ⟨st1, φ1, h1, h2, h3⟩
  | outgrown => exact ⟨st1, φ1, h1, h2, h3⟩

/-- The value of an operand. -/
def ofConst : Value → AV
  | .bool b => .bool b
  | .int k n => .int k n
  | .string s => .str s.data.toList
  | .pointer a => if a.isNone then .nilp else .junk
  | .slice a n c => if a.isNone && n == 0 && c == 0 then .nils else .junk
  | .map a => if a.isNone then .nilm else .junk
  | .nilFunc => .nilf
  | _ => .junk
theorem ofConst_rel (R : Env) (v : Value) : VRel R (ofConst v) v := by
  cases v with
  | bool b => rfl
  | int k n => rfl
  | string s => simp [ofConst, VRel]
  | pointer a => cases a <;> simp [ofConst, VRel]
  | slice a n c =>
    simp only [ofConst]
    split
    · rename_i h
      simp at h
      obtain ⟨⟨rfl, rfl⟩, rfl⟩ := h
      simp [VRel]
    · trivial
  | map a => cases a <;> simp [ofConst, VRel]
  | nilFunc => rfl
  | _ => trivial

def AS.ev (st : AS) : Operand → AV
  | .tmp i => st.t i
  | .const v => ofConst v
  | .global _ => .junk
  | .func f => .fn (.func f) [] []

theorem CRel.ev {st : AS} {a : Act} {w : World} {φ : Nat → Ref} (h : CRel st a w φ) (x : Operand) : VRel ⟨w, φ, st.σ⟩ (st.ev x) (a.eval x) := by
  cases x with
  | tmp i => exact h.slot i
  | const v => exact ofConst_rel _ v
  | global g => trivial
  | func f => exact ⟨#[], #[], rfl, by simp [LRel], by simp [LRel]⟩

theorem Tri.cond {c : Operand} {x y : Code} {st : AS} {Q : Exit → AS → Prop} {b : Bool} (hc : st.ev c = .bool b) (ht : b = true → Tri r P x st Q) (hf : b = false → Tri r P y st Q) : Tri r P (.cond c x y) st Q := by
  intro a w φ hr
  have h := hr.ev c
  rw [hc] at h
  refine wpIn_cond (t := b) h ?_
  cases b with
  | true => exact ht rfl a w φ hr
  | false => exact hf rfl a w φ hr

theorem roundsIn_more {F : Fence} {n : Nat} {c : Code} {Q : Exit → Act → World → Prop} : ∀ {m m' : Nat} {a : Act} {w : World}, Code.roundsIn F n P c Q m a w → m ≤ m' → Code.roundsIn F n P c Q m' a w
  | 0, _, _, _, h, _ => h.elim
  | m + 1, 0, _, _, _, hle => by omega
  | m + 1, m' + 1, a, w, h, hle => by
    rw [roundsIn_succ] at h ⊢
    refine wpIn_mono h ?_
    intro e a' w' hq
    cases e with
    | normal => exact roundsIn_more (m := m) hq (by omega)
    | exit id => exact hq
    | goto l => exact hq
    | ret => exact hq
    | panic ch => exact hq
    | outgrown => exact hq

/-- A loop: what holds at each round's head, with a number that bounds the rounds to come. -/
theorem Tri.loop {c : Code} {st : AS} {Q : Exit → AS → Prop} (I : Nat → AS → Prop) (n0 : Nat) (h0 : I n0 st)
    (hround : ∀ n st, I n st → Tri r P c st (thenQ (fun st' => ∃ n', n' < n ∧ I n' st') Q)) : Tri r P (.loop c) st Q := by
  intro a w φ hr
  refine wpIn_loop_rounds (n0 + 1) ?_
  have key : ∀ n st1 a1 w1 φ1, I n st1 → CRel st1 a1 w1 φ1 → Evo st w φ st1 w1 φ1 → Code.roundsIn (fen r) 0 P c (cpost st w φ Q) (n + 1) a1 w1 := by
    intro n
    induction n using Nat.strongRecOn with
    | _ n ih =>
      intro st1 a1 w1 φ1 hI hr1 hx
      rw [roundsIn_succ]
      refine wpIn_mono (hround n st1 hI a1 w1 φ1 hr1) ?_
      rintro e a2 w2 ⟨st2, φ2, h1, h2, h3⟩
      cases e with
      | normal =>
        obtain ⟨n', hlt, hI'⟩ := h1
        exact roundsIn_more (ih n' hlt st2 a2 w2 φ2 hI' h2 (hx.trans h3)) hlt
      | exit id => exact ⟨st2, φ2, h1, h2, hx.trans h3⟩
      | goto l => exact ⟨st2, φ2, h1, h2, hx.trans h3⟩
      | ret => exact ⟨st2, φ2, h1, h2, hx.trans h3⟩
      | panic ch => exact h1.elim
      | outgrown => exact h1.elim
  exact key n0 st a w φ h0 hr (Evo.refl _ _ _)

/-! ### Calls -/
/-- A call of a function, told of values: what it hands back, what the store is then. Ns: names that are free, for what it makes and hands back by name. -/
def CallA (P : Program) (f : FuncId) (args : List AV) (σ : Nat → Option AO) (Ns : List Nat) (Q : AV → (Nat → Option AO) → Prop) : Prop :=
  ∀ (c : Nat) (w : World) (φ : Nat → Ref) (vs : List Value), LRel ⟨w, φ, σ⟩ args vs → SRel ⟨w, φ, σ⟩ → (∀ n, c ≤ n → φ n = .unset) → (∀ n, n ∈ Ns → n < c ∧ φ n = .unset) →
    CallsIn Fence.wide 0 P f vs.toArray w fun e w' => ∃ v x σ' φ', e = .returned v ∧ VRel ⟨w', φ', σ'⟩ x v ∧ Q x σ' ∧ SRel ⟨w', φ', σ'⟩ ∧ (∀ n, c ≤ n → φ' n = .unset) ∧
      (∀ n, n < c → n ∉ Ns → φ n = .unset → φ' n = .unset) ∧ Ext ⟨w, φ, σ⟩ ⟨w', φ', σ'⟩

theorem CallA.mono {f : FuncId} {args : List AV} {σ : Nat → Option AO} {Ns : List Nat} {Q Q' : AV → (Nat → Option AO) → Prop} (h : CallA P f args σ Ns Q) (hq : ∀ x σ', Q x σ' → Q' x σ') : CallA P f args σ Ns Q' :=
  fun c w φ vs h1 h2 h3 h4 => (h c w φ vs h1 h2 h3 h4).mono fun _ _ ⟨v, x, σ', φ', k1, k2, k3, k4⟩ => ⟨v, x, σ', φ', k1, k2, hq _ _ k3, k4⟩

/-- A call of yield, told of values: as a function's call; the loop's record has the name n. -/
def RoundA (P : Program) (n : Nat) (args : List AV) (σ : Nat → Option AO) (Ns : List Nat) (Q : AV → (Nat → Option AO) → Prop) : Prop :=
  ∀ (c : Nat) (w : World) (φ : Nat → Ref) (vs : List Value) (b : Nat), φ n = .blk b → LRel ⟨w, φ, σ⟩ args vs → SRel ⟨w, φ, σ⟩ → (∀ n, c ≤ n → φ n = .unset) → (∀ n, n ∈ Ns → n < c ∧ φ n = .unset) →
    YieldAt Fence.wide 0 P b vs.toArray w fun e w' => ∃ v x σ' φ', e = .returned v ∧ VRel ⟨w', φ', σ'⟩ x v ∧ Q x σ' ∧ SRel ⟨w', φ', σ'⟩ ∧ (∀ n, c ≤ n → φ' n = .unset) ∧
      (∀ n, n < c → n ∉ Ns → φ n = .unset → φ' n = .unset) ∧ Ext ⟨w, φ, σ⟩ ⟨w', φ', σ'⟩
theorem RoundA.mono {n : Nat} {args : List AV} {σ : Nat → Option AO} {Ns : List Nat} {Q Q' : AV → (Nat → Option AO) → Prop} (h : RoundA P n args σ Ns Q) (hq : ∀ x σ', Q x σ' → Q' x σ') : RoundA P n args σ Ns Q' :=
  fun c w φ vs b h0 h1 h2 h3 h4 => by
    obtain ⟨fn, tmps, asg, body, k1, k2⟩ := h c w φ vs b h0 h1 h2 h3 h4
    exact ⟨fn, tmps, asg, body, k1, k2.mono fun _ _ ⟨v, x, σ', φ', q1, q2, q3, q4⟩ => ⟨v, x, σ', φ', q1, q2, hq _ _ q3, q4⟩⟩
/-- What is called: a function; yield. -/
inductive Tgt where
  | fn (k : FuncId) | yl (n : Nat)
def CallT (P : Program) (k : Tgt) (args : List AV) (σ : Nat → Option AO) (Ns : List Nat) (Q : AV → (Nat → Option AO) → Prop) : Prop :=
  match k with
  | .fn k => CallA P k args σ Ns Q
  | .yl n => RoundA P n args σ Ns Q

end Go.Ab
