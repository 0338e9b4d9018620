/-
  The engine, part 2: states of a call, the small code language, what it is for code to lead from a state to states, the rules for code.
-/
import Derived.Test.YtbmlhmgldipnhabGreatE1
set_option linter.unusedVariables false
set_option linter.unusedSimpArgs false
namespace Go.Proofs.YtbmlhmgldipnhabGreatE
open Go

inductive Opd where
  | t (n : Nat)
  | k (v : AV)
  deriving Inhabited

/-- What is known of a call's slots and objects; of a slot that isn't listed nothing is known. -/
structure St where
  env : List (Nat × AV)
  obs : List (Nat × Option Node)
  nm : List Nat
  deriving Inhabited

def St.get (s : St) : Opd → AV
  | .t n => (s.env.lookup n).getD .dead
  | .k v => v

def St.ob (s : St) (k : Nat) : Option Node := (s.obs.lookup k).getD none

def Owned (β : Places) (s : St) (b : Nat) : Prop := ∃ k nd o, s.ob k = some nd ∧ β k = some (b, o)

/-- The objects of a state stand in the world. -/
structure Objs (β : Places) (Z : Froz) (s : St) (w : World) : Prop where
  node : ∀ k nd, s.ob k = some nd → NRep β Z w k nd
  inj : ∀ k k' nd nd' b o o', s.ob k = some nd → s.ob k' = some nd' → β k = some (b, o) → β k' = some (b, o') → k = k'
  froz : ∀ b o, Z b o → b < w.heap.size
  dom : ∀ k b o, β k = some (b, o) → b < w.heap.size
  names : ∀ k p, β k = some p → k ∈ s.nm

structure Rel (N : Nat) (β : Places) (Z : Froz) (s : St) (a : Act) (w : World) : Prop extends Objs β Z s w where
  env : ∀ t v, s.env.lookup t = some v → CRep β Z w v (a.tmps.getD t undef)
  size : a.tmps.size = N
  defers : a.defers = []

/-- How the world has gone on since a state. -/
structure SExt (β : Places) (Z : Froz) (s : St) (w : World) (β' : Places) (Z' : Froz) (s' : St) (w' : World) : Prop where
  os : w'.os = w.os
  tape : w'.tape = w.tape
  output : w'.output = w.output
  size : w.heap.size ≤ w'.heap.size
  keeps : Keeps Z w Z' w'
  frame : ∀ b, b < w.heap.size → ¬ Owned β s b → w'.heap[b]? = w.heap[b]?
  frz : ∀ b o, b < w.heap.size → Z' b o → Z b o ∨ Owned β s b
  owned : ∀ b, b < w.heap.size → Owned β' s' b → Owned β s b
  low : ∀ k, (k < 100 ∨ 0 ∈ s.nm) → k ∈ s.nm → β' k = β k ∧ k ∈ s'.nm

theorem SExt.refl (β : Places) (Z : Froz) (s : St) (w : World) : SExt β Z s w β Z s w :=
  ⟨rfl, rfl, rfl, Nat.le_refl _, Keeps.refl _ _, fun _ _ _ => rfl, fun _ _ _ h => .inl h, fun _ _ h => h, fun _ _ h => ⟨rfl, h⟩⟩

theorem SExt.trans {β β1 β2 : Places} {Z Z1 Z2 : Froz} {s s1 s2 : St} {w w1 w2 : World} (h : SExt β Z s w β1 Z1 s1 w1) (k : SExt β1 Z1 s1 w1 β2 Z2 s2 w2) : SExt β Z s w β2 Z2 s2 w2 where
  os := k.os.trans h.os
  tape := k.tape.trans h.tape
  output := k.output.trans h.output
  size := Nat.le_trans h.size k.size
  keeps := h.keeps.trans k.keeps
  frame b hb ho := (k.frame b (Nat.lt_of_lt_of_le hb h.size) (fun h1 => ho (h.owned b hb h1))).trans (h.frame b hb ho)
  frz b o hb hz := (k.frz b o (Nat.lt_of_lt_of_le hb h.size) hz).elim (h.frz b o hb) (fun h1 => .inr (h.owned b hb h1))
  owned b hb ho := h.owned b hb (k.owned b (Nat.lt_of_lt_of_le hb h.size) ho)
  low n hn hs :=
    have hn' : n < 100 ∨ 0 ∈ s1.nm := hn.imp id fun h0 => (h.low 0 (.inl (by decide)) h0).2
    ⟨((k.low n hn' (h.low n hn hs).2).1).trans (h.low n hn hs).1, (k.low n hn' (h.low n hn hs).2).2⟩

/-- What is asked when code has come to an end of some kind. -/
def Post (N : Nat) (β : Places) (Z : Froz) (s : St) (w : World) (Q : Exit → St → Prop) : Exit → Act → World → Prop :=
  fun e a' w' => ∃ s' β' Z', Q e s' ∧ Rel N β' Z' s' a' w' ∧ SExt β Z s w β' Z' s' w'

def ACode (P : Program) (N : Nat) (c : Code) (s : St) (Q : Exit → St → Prop) : Prop :=
  ∀ β Z a w, Rel N β Z s a w → c.wp P (Post N β Z s w Q) a w

/-- A step that turns nothing in the world: less is known, objects are frozen or take other names. -/
def Wk (s s' : St) : Prop := ∀ N β Z a w, Rel N β Z s a w → ∃ β' Z', Rel N β' Z' s' a w ∧ SExt β Z s w β' Z' s' w
theorem Wk.refl (s : St) : Wk s s := fun _ β Z _ w h => ⟨β, Z, h, SExt.refl β Z s w⟩
theorem Wk.trans {s s1 s2 : St} (h : Wk s s1) (k : Wk s1 s2) : Wk s s2 := fun N β Z a w r => by
  obtain ⟨β1, Z1, r1, e1⟩ := h N β Z a w r
  obtain ⟨β2, Z2, r2, e2⟩ := k N β1 Z1 a w r1
  exact ⟨β2, Z2, r2, e1.trans e2⟩

def Exit.thenK (M : St → Prop) (Q : Exit → St → Prop) : Exit → St → Prop
  | .normal, s => M s
  | e, s => Q e s

def Exit.inB (id : Nat) (M : St → Prop) (Q : Exit → St → Prop) : Exit → St → Prop
  | .normal, s => M s
  | .exit id', s => if id' = id then M s else Q (.exit id') s
  | e, s => Q e s

theorem wp_lift {P : Program} {N : Nat} {c : Code} {β β1 : Places} {Z Z1 : Froz} {s s1 : St} {w w1 : World} {Q : Exit → St → Prop} {a : Act} (he : SExt β Z s w β1 Z1 s1 w1) (h : c.wp P (Post N β1 Z1 s1 w1 Q) a w1) : c.wp P (Post N β Z s w Q) a w1 :=
  wp_mono h fun _ _ _ ⟨s', β', Z', q, r, e⟩ => ⟨s', β', Z', q, r, he.trans e⟩

theorem ACode.mono {P : Program} {N : Nat} {c : Code} {s : St} {Q Q' : Exit → St → Prop} (h : ACode P N c s Q) (hq : ∀ e s', Q e s' → Q' e s') : ACode P N c s Q' :=
  fun β Z a w r => wp_mono (h β Z a w r) fun _ _ _ ⟨s', β', Z', q, r, e⟩ => ⟨s', β', Z', hq _ _ q, r, e⟩

theorem ACode.weak {P : Program} {N : Nat} {c : Code} {s s1 : St} {Q : Exit → St → Prop} (hw : Wk s s1) (h : ACode P N c s1 Q) : ACode P N c s Q := fun β Z a w r => by
  obtain ⟨β1, Z1, r1, e1⟩ := hw N β Z a w r
  exact wp_lift e1 (h β1 Z1 a w r1)

theorem ACode.skip {P : Program} {N : Nat} {s : St} {Q : Exit → St → Prop} (h : Q .normal s) : ACode P N .skip s Q :=
  fun β Z a w r => wp_skip ⟨s, β, Z, h, r, SExt.refl ..⟩
theorem ACode.exit {P : Program} {N : Nat} {s : St} {Q : Exit → St → Prop} {id : Nat} (h : Q (.exit id) s) : ACode P N (.exit id) s Q :=
  fun β Z a w r => wp_exit ⟨s, β, Z, h, r, SExt.refl ..⟩
theorem ACode.ret {P : Program} {N : Nat} {s : St} {Q : Exit → St → Prop} (h : Q .ret s) : ACode P N .ret s Q :=
  fun β Z a w r => wp_ret ⟨s, β, Z, h, r, SExt.refl ..⟩

theorem ACode.seq {P : Program} {N : Nat} {x y : Code} {s : St} {M : St → Prop} {Q : Exit → St → Prop} (h : ACode P N x s (Exit.thenK M Q)) (k : ∀ s', M s' → ACode P N y s' Q) : ACode P N (.seq x y) s Q := fun β Z a w r =>
  wp_seq (wp_mono (h β Z a w r) fun e a' w' ⟨s', β', Z', q, r', e'⟩ => by
    cases e with
    | normal => exact wp_lift e' (k s' q β' Z' a' w' r')
    | exit id => exact ⟨s', β', Z', q, r', e'⟩
    | goto l => exact ⟨s', β', Z', q, r', e'⟩
    | ret => exact ⟨s', β', Z', q, r', e'⟩
    | panic ch => exact ⟨s', β', Z', q, r', e'⟩
    | outgrown => exact ⟨s', β', Z', q, r', e'⟩)

theorem ACode.block {P : Program} {N : Nat} {x : Code} {id : Nat} {s : St} {Q : Exit → St → Prop} (h : ACode P N x s (Exit.inB id (Q .normal) Q)) : ACode P N (.block id x) s Q := fun β Z a w r =>
  wp_block (wp_mono (h β Z a w r) fun e a' w' ⟨s', β', Z', q, r', e'⟩ => by
    cases e with
    | normal => exact ⟨s', β', Z', q, r', e'⟩
    | exit id' =>
      simp only [Exit.inBlock]
      by_cases hid : id' = id
      · simp only [Exit.inB, hid, if_true] at q
        rw [if_pos hid]
        exact ⟨s', β', Z', q, r', e'⟩
      · simp only [Exit.inB, hid, if_false] at q
        rw [if_neg hid]
        exact ⟨s', β', Z', q, r', e'⟩
    | goto l => exact ⟨s', β', Z', q, r', e'⟩
    | ret => exact ⟨s', β', Z', q, r', e'⟩
    | panic ch => exact ⟨s', β', Z', q, r', e'⟩
    | outgrown => exact ⟨s', β', Z', q, r', e'⟩)

/-- A loop: the least set of states from which its rounds lead on or out. -/
def LoopS (B : St → (Exit → St → Prop) → Prop) (s : St) (Q : Exit → St → Prop) : Prop :=
  ∀ I : St → Prop, (∀ s', B s' (Exit.thenK I Q) → I s') → I s

theorem ACode.loop {P : Program} {N : Nat} {c : Code} {B : St → (Exit → St → Prop) → Prop} (hB : ∀ s Q, B s Q → ACode P N c s Q) {s : St} {Q : Exit → St → Prop} (h : LoopS B s Q) : ACode P N (.loop c) s Q := by
  intro β Z a w r b k cs
  have key : ∀ β Z a w, Rel N β Z s a w → ∃ e a' w', Post N β Z s w Q e a' w' ∧ Arrives P (lone (b.at a (.code c :: .inLoop c :: k)) cs w) b k cs e a' w' := by
    refine h (fun s => ∀ β Z a w, Rel N β Z s a w → ∃ e a' w', Post N β Z s w Q e a' w' ∧ Arrives P (lone (b.at a (.code c :: .inLoop c :: k)) cs w) b k cs e a' w') ?_
    intro s1 hs1 β Z a w r
    obtain ⟨e, a1, w1, ⟨s2, β2, Z2, q, r2, e2⟩, harr⟩ := hB s1 _ hs1 β Z a w r b (.inLoop c :: k) cs
    cases e with
    | normal =>
      obtain ⟨e3, a3, w3, ⟨s3, β3, Z3, q3, r3, e3'⟩, harr3⟩ := q β2 Z2 a1 w1 r2
      exact ⟨e3, a3, w3, ⟨s3, β3, Z3, q3, r3, e2.trans e3'⟩, .of_steps (Steps.trans harr (.one step_inLoop)) harr3⟩
    | exit id => exact ⟨_, a1, w1, ⟨s2, β2, Z2, q, r2, e2⟩, .pass (x := .inLoop c) rfl (fun _ _ => .inl (by simp)) harr⟩
    | goto l => exact ⟨_, a1, w1, ⟨s2, β2, Z2, q, r2, e2⟩, .pass (x := .inLoop c) rfl (fun _ _ => .inl (by simp)) harr⟩
    | ret => exact ⟨_, a1, w1, ⟨s2, β2, Z2, q, r2, e2⟩, .pass (x := .inLoop c) rfl (fun _ _ => .inl (by simp)) harr⟩
    | panic ch => exact ⟨_, a1, w1, ⟨s2, β2, Z2, q, r2, e2⟩, .pass (x := .inLoop c) rfl (fun _ _ => .inl (by simp)) harr⟩
    | outgrown => exact ⟨_, a1, w1, ⟨s2, β2, Z2, q, r2, e2⟩, .pass (x := .inLoop c) rfl (fun _ _ => .inl (by simp)) harr⟩
  obtain ⟨e, a', w', hq, harr⟩ := key β Z a w r
  exact ⟨e, a', w', hq, .of_steps (.one step_loop) harr⟩

end Go.Proofs.YtbmlhmgldipnhabGreatE
