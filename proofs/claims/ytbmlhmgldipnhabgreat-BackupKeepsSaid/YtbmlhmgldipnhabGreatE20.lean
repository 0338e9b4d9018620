/-
  The engine, part 20: a region that is carried out in whatever order its edges allow.
-/
import Derived.Test.YtbmlhmgldipnhabGreatE19
set_option linter.unusedVariables false
set_option linter.unusedSimpArgs false
namespace Go.Proofs.YtbmlhmgldipnhabGreatE
open Go

/-! ### states that say the same -/
def Eqv (s s' : St) : Prop := (∀ t, s.env.lookup t = s'.env.lookup t) ∧ (∀ k, s.ob k = s'.ob k) ∧ ∀ k, k ∈ s.nm ↔ k ∈ s'.nm
theorem Eqv.refl (s : St) : Eqv s s := ⟨fun _ => rfl, fun _ => rfl, fun _ => Iff.rfl⟩
theorem Eqv.trans {s s1 s2 : St} (h : Eqv s s1) (k : Eqv s1 s2) : Eqv s s2 := ⟨fun t => (h.1 t).trans (k.1 t), fun t => (h.2.1 t).trans (k.2.1 t), fun t => (h.2.2 t).trans (k.2.2 t)⟩

theorem Rel.eqv {N : Nat} {β : Places} {Z : Froz} {s s' : St} {a : Act} {w : World} (h : Eqv s s') (r : Rel N β Z s a w) : Rel N β Z s' a w where
  toObjs := r.toObjs.same (fun k nd hk => (h.2.1 k).trans hk) fun k => (h.2.2 k).1
  env t v ht := r.env t v ((h.1 t).trans ht)
  size := r.size
  defers := r.defers
theorem SExt.eqv {β β' : Places} {Z Z' : Froz} {s s1 s1' : St} {w w' : World} (h : Eqv s1 s1') (e : SExt β Z s w β' Z' s1 w') : SExt β Z s w β' Z' s1' w' :=
  { e with owned := fun b hb ⟨k, nd, o, h1, h2⟩ => e.owned b hb ⟨k, nd, o, (h.2.1 k).trans h1, h2⟩, low := fun k hk hs => ⟨(e.low k hk hs).1, (h.2.2 k).1 (e.low k hk hs).2⟩ }

theorem app_env (s : St) (d : Option Nat) (e : Ev) (t : Nat) : (s.app d e).env.lookup t = if d = some t then some e.v else s.env.lookup t := by
  cases d with
  | none => simp [St.app, St.put]
  | some d =>
    by_cases h : d = t
    · subst h; simp [St.app, St.put, lookup_cons_eq]
    · rw [if_neg (by simpa using h)]
      exact lookup_cons_ne fun h' => h h'.symm
theorem app_ob (s : St) (d : Option Nat) (e : Ev) (k : Nat) : (s.app d e).ob k = (e.U.lookup k).getD (s.ob k) := by
  unfold St.ob St.app
  simp only [lookup_append]
  cases e.U.lookup k <;> simp
theorem app_nm (s : St) (d : Option Nat) (e : Ev) (k : Nat) : k ∈ (s.app d e).nm ↔ k ∈ e.C ∨ k ∈ s.nm := by simp [St.app]

theorem Eqv.app {s s' : St} (h : Eqv s s') (d : Option Nat) (e : Ev) : Eqv (s.app d e) (s'.app d e) :=
  ⟨fun t => by simp only [app_env, h.1 t], fun k => by simp only [app_ob, h.2.1 k], fun k => by simp only [app_nm, h.2.2 k]⟩

theorem Eqv.comm (s : St) {d d' : Option Nat} {e e' : Ev} (hd : ∀ x, d = some x → d' ≠ some x) (hU : ∀ k, k ∈ keys e.U → k ∉ keys e'.U) : Eqv ((s.app d e).app d' e') ((s.app d' e').app d e) := by
  refine ⟨fun t => ?_, fun k => ?_, fun k => ?_⟩
  · simp only [app_env]
    by_cases h : d = some t
    · rw [if_neg (hd t h), if_pos h, if_pos h]
    · by_cases h' : d' = some t <;> simp [h, h']
  · simp only [app_ob]
    cases h : e.U.lookup k with
    | none => rfl
    | some x => rw [lookup_none_of_not_mem (hU k (mem_keys_of_lookup h))]; rfl
  · simp only [app_nm]
    constructor <;> rintro (h | h | h) <;> simp [h]

/-! ### some of the operations -/
def stS (S : Nat → Bool) : Nat → List (It × Ev) → St → St
  | _, [], s => s
  | k, p :: l, s => stS S (k + 1) l (if S k then s.app p.1.d p.2 else s)

theorem stS_congr {S S' : Nat → Bool} : ∀ (l : List (It × Ev)) (k : Nat) (s : St), (∀ j, j < l.length → S (k + j) = S' (k + j)) → stS S k l s = stS S' k l s
  | [], _, _, _ => rfl
  | p :: l, k, s, h => by
    simp only [stS]
    rw [show S k = S' k from h 0 (by simp)]
    exact stS_congr l (k + 1) _ fun j hj => by have := h (j + 1) (by simp; omega); rwa [show k + (j + 1) = k + 1 + j by omega] at this
theorem stS_eqv {S : Nat → Bool} : ∀ (l : List (It × Ev)) (k : Nat) (s s' : St), Eqv s s' → Eqv (stS S k l s) (stS S k l s')
  | [], _, _, _, h => h
  | p :: l, k, s, s', h => by
    simp only [stS]
    refine stS_eqv l (k + 1) _ _ ?_
    split
    · exact h.app _ _
    · exact h
theorem stS_env {S S' : Nat → Bool} {t : Nat} : ∀ (l : List (It × Ev)) (k : Nat) (s s' : St), s.env.lookup t = s'.env.lookup t → (∀ j p, l[j]? = some p → S (k + j) ≠ S' (k + j) → p.1.d ≠ some t) → (stS S k l s).env.lookup t = (stS S' k l s').env.lookup t
  | [], _, _, _, h, _ => h
  | p :: l, k, s, s', h, hd => by
    simp only [stS]
    refine stS_env l (k + 1) _ _ ?_ fun j q hq hne => hd (j + 1) q (by simpa using hq) (by rwa [show k + (j + 1) = k + 1 + j by omega])
    have h0 := hd 0 p (by simp)
    simp only [Nat.add_zero] at h0
    cases e : S k <;> cases e' : S' k <;> simp only [if_true, Bool.false_eq_true, if_false, app_env]
    · exact h
    · rw [if_neg (h0 (by rw [e, e']; simp))]; exact h
    · rw [if_neg (h0 (by rw [e, e']; simp))]; exact h
    · rw [h]
theorem stS_ob {S S' : Nat → Bool} {x : Nat} : ∀ (l : List (It × Ev)) (k : Nat) (s s' : St), s.ob x = s'.ob x → (∀ j p, l[j]? = some p → S (k + j) ≠ S' (k + j) → x ∉ keys p.2.U) → (stS S k l s).ob x = (stS S' k l s').ob x
  | [], _, _, _, h, _ => h
  | p :: l, k, s, s', h, hd => by
    simp only [stS]
    refine stS_ob l (k + 1) _ _ ?_ fun j q hq hne => hd (j + 1) q (by simpa using hq) (by rwa [show k + (j + 1) = k + 1 + j by omega])
    have h0 := hd 0 p (by simp)
    simp only [Nat.add_zero] at h0
    cases e : S k <;> cases e' : S' k <;> simp only [if_true, Bool.false_eq_true, if_false, app_ob]
    · exact h
    · rw [lookup_none_of_not_mem (h0 (by rw [e, e']; simp))]; exact h
    · rw [lookup_none_of_not_mem (h0 (by rw [e, e']; simp))]; exact h
    · rw [h]
theorem stS_nm {S : Nat → Bool} {x : Nat} : ∀ (l : List (It × Ev)) (k : Nat) (s : St), x ∉ s.nm → (∀ j p, l[j]? = some p → S (k + j) = true → x ∉ p.2.C) → x ∉ (stS S k l s).nm
  | [], _, _, h, _ => h
  | p :: l, k, s, h, hd => by
    simp only [stS]
    refine stS_nm l (k + 1) _ ?_ fun j q hq hne => hd (j + 1) q (by simpa using hq) (by rwa [show k + (j + 1) = k + 1 + j by omega])
    have h0 := hd 0 p (by simp)
    simp only [Nat.add_zero] at h0
    split
    · rename_i e
      rw [app_nm]
      rintro (h1 | h1)
      · exact h0 e h1
      · exact h h1
    · exact h
theorem stS_move {S : Nat → Bool} {d : Option Nat} {e : Ev} : ∀ (l : List (It × Ev)) (k : Nat) (s : St), (∀ j p, l[j]? = some p → S (k + j) = true → (∀ x, d = some x → p.1.d ≠ some x) ∧ ∀ x, x ∈ keys e.U → x ∉ keys p.2.U) → Eqv (stS S k l (s.app d e)) ((stS S k l s).app d e)
  | [], _, _, _ => Eqv.refl _
  | p :: l, k, s, hd => by
    simp only [stS]
    have ih := fun s => stS_move (S := S) (d := d) (e := e) l (k + 1) s fun j q hq hs => hd (j + 1) q (by simpa using hq) (by rwa [show k + (j + 1) = k + 1 + j by omega])
    have h0 := hd 0 p (by simp)
    simp only [Nat.add_zero] at h0
    split
    · rename_i hs
      exact (stS_eqv l (k + 1) _ _ (Eqv.comm s (h0 hs).1 (h0 hs).2)).trans (ih _)
    · exact ih s
theorem stS_add {S : Nat → Bool} : ∀ (l : List (It × Ev)) (k i : Nat) (s : St) (p : It × Ev), l[i]? = some p → S (k + i) = false →
    (∀ j q, l[j]? = some q → i < j → S (k + j) = true → (∀ x, p.1.d = some x → q.1.d ≠ some x) ∧ ∀ x, x ∈ keys p.2.U → x ∉ keys q.2.U) →
    Eqv ((stS S k l s).app p.1.d p.2) (stS (fun j => S j || j == k + i) k l s)
  | [], _, _, _, _, hp, _, _ => by simp at hp
  | q :: l, k, 0, s, p, hp, hS, hd => by
    simp only [List.getElem?_cons_zero, Option.some.injEq] at hp
    subst hp
    simp only [Nat.add_zero] at hS
    simp only [stS, hS, Nat.add_zero, beq_self_eq_true, Bool.or_true, if_true, Bool.false_eq_true, if_false]
    have h1 := stS_move (S := S) (d := q.1.d) (e := q.2) l (k + 1) s fun j r hr hs => hd (j + 1) r (by simpa using hr) (by omega) (by rwa [show k + (j + 1) = k + 1 + j by omega])
    refine Eqv.trans ⟨fun t => (h1.1 t).symm, fun t => (h1.2.1 t).symm, fun t => (h1.2.2 t).symm⟩ ?_
    rw [stS_congr (S := S) (S' := fun j => S j || j == k) l (k + 1) _ fun j hj => by
      have : (k + 1 + j == k) = false := by simp; omega
      simp [this]]
    exact Eqv.refl _
  | q :: l, k, i + 1, s, p, hp, hS, hd => by
    simp only [stS]
    have := stS_add (S := S) l (k + 1) i (if S k then s.app q.1.d q.2 else s) p (by simpa using hp) (by rwa [show k + 1 + i = k + (i + 1) by omega]) fun j r hr hij hs => hd (j + 1) r (by simpa using hr) (by omega) (by rwa [show k + (j + 1) = k + 1 + j by omega])
    rw [show k + 1 + i = k + (i + 1) by omega] at this
    have hk : (k == k + (i + 1)) = false := by simp
    simpa [hk] using this

/-! ### what may change places -/
def Opd.slot : Opd → Option Nat
  | .t n => some n
  | .k _ => none
def It.reads (it : It) : List Nat := it.i.opds.filterMap Opd.slot ++ (it.g.map (·.1)).toList
def noneIn (xs ys : List Nat) : Bool := xs.all fun x => !ys.contains x
theorem noneIn_spec {xs ys : List Nat} (h : noneIn xs ys = true) : ∀ x, x ∈ xs → x ∉ ys := fun x hx hy => by
  have := List.all_eq_true.1 h x hx
  simp [hy] at this
def apart (p q : It × Ev) : Bool := noneIn p.1.d.toList q.1.reads && noneIn q.1.d.toList p.1.reads && noneIn p.1.d.toList q.1.d.toList && noneIn (keys p.2.U) q.2.F && noneIn (keys q.2.U) p.2.F && noneIn (keys p.2.U) (keys q.2.U)
def news (p q : It × Ev) : Bool := !q.2.C.contains p.1.m && !p.2.C.contains q.1.m && noneIn p.2.C q.2.C
def apartAll : Nat → List (It × Ev) → Bool
  | _, [] => true
  | k, p :: l => (l.all fun q => news p q && (q.1.a.contains k || apart p q)) && apartAll (k + 1) l

theorem apartAll_spec : ∀ (l : List (It × Ev)) (k : Nat), apartAll k l = true → ∀ i j p q, i < j → l[i]? = some p → l[j]? = some q → news p q = true ∧ (k + i ∈ q.1.a ∨ apart p q = true)
  | [], _, _, _, _, _, _, _, hp, _ => by simp at hp
  | r :: l, k, h, 0, j, p, q, hij, hp, hq => by
    simp only [apartAll, Bool.and_eq_true] at h
    simp only [List.getElem?_cons_zero, Option.some.injEq] at hp
    subst hp
    obtain ⟨j, rfl⟩ : ∃ j', j = j' + 1 := ⟨j - 1, by omega⟩
    have := List.all_eq_true.1 h.1 q (List.mem_of_getElem? (by simpa using hq))
    simpa using this
  | r :: l, k, h, i + 1, j, p, q, hij, hp, hq => by
    simp only [apartAll, Bool.and_eq_true] at h
    obtain ⟨j, rfl⟩ : ∃ j', j = j' + 1 := ⟨j - 1, by omega⟩
    have := apartAll_spec l (k + 1) h.2 i j p q (by omega) (by simpa using hp) (by simpa using hq)
    rwa [show k + 1 + i = k + (i + 1) by omega] at this

/-- The operations in the text's order, with what each gives. -/
def RegE (P : Program) : List It → St → List (It × Ev) → Prop
  | [], _, l => l = []
  | it :: its, s, l => ∃ ev l', l = (it, ev) :: l' ∧ RunIt P s it ev ∧ RegE P its (s.app it.d ev) l'

theorem RegE.at_ {P : Program} : ∀ (its : List It) (s : St) (l : List (It × Ev)) (k : Nat), RegE P its s l → l.length = its.length ∧ ∀ j it, its[j]? = some it → ∃ ev, l[j]? = some (it, ev) ∧ RunIt P (stS (fun i => decide (i < k + j)) k l s) it ev
  | [], s, l, k, h => by
    simp only [RegE] at h
    subst h
    simp
  | it :: its, s, l, k, h => by
    obtain ⟨ev, l', rfl, h1, h2⟩ := h
    obtain ⟨h3, h4⟩ := RegE.at_ its _ l' (k + 1) h2
    refine ⟨by simp [h3], fun j jt hj => ?_⟩
    cases j with
    | zero =>
      simp only [List.getElem?_cons_zero, Option.some.injEq] at hj
      subst hj
      refine ⟨ev, rfl, ?_⟩
      have : stS (fun i => decide (i < k + 0)) k ((it, ev) :: l') s = s := by
        simp only [stS, Nat.add_zero, Nat.lt_irrefl, decide_false, Bool.false_eq_true, if_false]
        have h0 : ∀ (l : List (It × Ev)) (n : Nat), k ≤ n → stS (fun i => decide (i < k)) n l s = s := by
          intro l
          induction l with
          | nil => intro n _; rfl
          | cons p l ih =>
            intro n hn
            have : decide (n < k) = false := by simp; omega
            simp only [stS, this, Bool.false_eq_true, if_false]
            exact ih (n + 1) (by omega)
        exact h0 l' (k + 1) (by omega)
      rw [this]
      exact h1
    | succ j =>
      obtain ⟨ev', h5, h6⟩ := h4 j jt (by simpa using hj)
      refine ⟨ev', by simpa using h5, ?_⟩
      have hk : decide (k < k + (j + 1)) = true := by simp
      simp only [stS, hk, if_true]
      rwa [show k + (j + 1) = k + 1 + j by omega]

theorem RunIt.frame {P : Program} {s s' : St} {it : It} {ev : Ev} (h : RunIt P s it ev) (hr : ∀ t, t ∈ it.reads → s'.env.lookup t = s.env.lookup t) (ho : ∀ k, k ∈ ev.F → s'.ob k = s.ob k) (hm : it.m ∉ s'.nm) (hC : ∀ k, k ∈ ev.C → k ∉ s'.nm) : RunIt P s' it ev := by
  have hg : ∀ x, x ∈ it.i.opds → s'.get x = s.get x := fun x hx => by
    cases x with
    | k v => rfl
    | t n =>
      have := hr n (List.mem_append.2 (.inl (List.mem_filterMap.2 ⟨_, hx, rfl⟩)))
      show (s'.env.lookup n).getD .dead = (s.env.lookup n).getD .dead
      rw [this]
  have hgu : ∀ t b, it.g = some (t, b) → s'.get (.t t) = s.get (.t t) := fun t b h => by
    have := hr t (List.mem_append.2 (.inr (by simp [h])))
    show (s'.env.lookup t).getD .dead = (s.env.lookup t).getD .dead
    rw [this]
  cases h with
  | free h1 h2 h3 h4 => exact .free h1 (h2.frame hg ho) hm hC
  | held t b h1 h2 h3 h4 h5 => exact .held t b h1 ((hgu t b h1).trans h2) (h3.frame hg ho) hm hC
  | skip t b h1 h2 h3 => exact .skip t b h1 (by rw [hgu t b h1]; exact h2) h3

theorem cIts_at {P : Program} {N : Nat} {ops : Array Oper} : ∀ (l : List Oper) (pre : List (List Nat)) (its : List It), cIts P N ops true pre l = some its → l.length = its.length ∧
    ∀ j o, l[j]? = some o → ∃ it, its[j]? = some it ∧ compI P o = some it.i ∧ cGuard N ops o.guard = some it.g ∧ it.d = o.dst ∧ (∀ d, o.dst = some d → d < N) ∧
      (∀ e, e ∈ o.after → Region.binds .any e = true → e.on < pre.length + j) ∧ ∀ x, x ∈ it.a → ∃ e, e ∈ o.after ∧ Region.binds .any e = true ∧ (x = e.on ∨ x ∈ (pre ++ its.map (·.a)).getD e.on [])
  | [], pre, its, h => by
    simp only [cIts, Option.some.injEq] at h
    subst h
    simp
  | o :: l, pre, its, h => by
    obtain ⟨it, its', rfl, h1, h2, h3, h4, h5, h6, h7⟩ := cIts_cons h
    obtain ⟨h8, h9⟩ := cIts_at l _ its' h5
    refine ⟨by simp [h8], fun j q hj => ?_⟩
    cases j with
    | zero =>
      simp only [List.getElem?_cons_zero, Option.some.injEq] at hj
      subst hj
      refine ⟨it, rfl, h1, h2, h3, h4, fun e he hb => by simpa using h6 e he hb, fun x hx => ?_⟩
      obtain ⟨e, he, hb, hx⟩ := h7 rfl x hx
      refine ⟨e, he, hb, hx.imp id fun hx => ?_⟩
      have := h6 e he hb
      simp only [List.getD_eq_getElem?_getD, List.getElem?_append_left this] at hx ⊢
      exact hx
    | succ j =>
      obtain ⟨jt, g1, g2, g3, g4, g5, g6, g7⟩ := h9 j q (by simpa using hj)
      refine ⟨jt, by simpa using g1, g2, g3, g4, g5, fun e he hb => by have := g6 e he hb; simp at this; omega, fun x hx => ?_⟩
      obtain ⟨e, he, hb, hx⟩ := g7 x hx
      exact ⟨e, he, hb, by simpa using hx⟩

/-- The operations of a region, as they are compiled, whatever names their new objects take. -/
def ItsAt (P : Program) (N : Nat) (ops : Array Oper) (its : List It) : Prop := ops.toList.length = its.length ∧
    ∀ j o, ops.toList[j]? = some o → ∃ it, its[j]? = some it ∧ compI P o = some it.i ∧ cGuard N ops o.guard = some it.g ∧ it.d = o.dst ∧ (∀ d, o.dst = some d → d < N) ∧
      (∀ e, e ∈ o.after → Region.binds .any e = true → e.on < ([] : List (List Nat)).length + j) ∧ ∀ x, x ∈ it.a → ∃ e, e ∈ o.after ∧ Region.binds .any e = true ∧ (x = e.on ∨ x ∈ (([] : List (List Nat)) ++ its.map (fun it => it.a)).getD e.on [])
def It.bare (it : It) : It := { it with m := 0 }
theorem ItsAt.bare {P : Program} {N : Nat} {ops : Array Oper} {its its' : List It} (h : ItsAt P N ops its) (hm : its'.map It.bare = its.map It.bare) : ItsAt P N ops its' := by
  obtain ⟨h1, h2⟩ := h
  have ha : its'.map (·.a) = its.map (·.a) := by
    have := congrArg (List.map (fun it => it.a)) hm
    rw [List.map_map, List.map_map] at this
    exact this
  have hl : its'.length = its.length := by simpa using congrArg List.length hm
  refine ⟨by omega, fun j o hj => ?_⟩
  obtain ⟨it, g1, g2, g3, g4, g5, g6, g7⟩ := h2 j o hj
  have e : (its'.map It.bare)[j]? = (its.map It.bare)[j]? := by rw [hm]
  simp only [List.getElem?_map, g1, Option.map_some] at e
  obtain ⟨it', g1', e'⟩ := Option.map_eq_some_iff.1 e
  obtain ⟨i, d, g, a, m⟩ := it
  obtain ⟨i', d', g', a', m'⟩ := it'
  simp only [It.bare, It.mk.injEq] at e'
  obtain ⟨rfl, rfl, rfl, rfl, _⟩ := e'
  exact ⟨_, g1', g2, g3, g4, g5, g6, by rw [ha]; exact g7⟩

theorem filter_lt {α : Type} {p q : α → Bool} : ∀ (l : List α), (∀ x, x ∈ l → q x = true → p x = true) → (∃ x, x ∈ l ∧ p x = true ∧ q x = false) → (l.filter q).length < (l.filter p).length
  | [], _, h => by obtain ⟨x, hx, _⟩ := h; cases hx
  | y :: l, h, hx => by
    have hle : ∀ (m : List α), (∀ x, x ∈ m → q x = true → p x = true) → (m.filter q).length ≤ (m.filter p).length := by
      intro m
      induction m with
      | nil => intro _; simp
      | cons z m ih =>
        intro hm
        have := ih fun x hx => hm x (List.mem_cons_of_mem _ hx)
        have hz := hm z (by simp)
        simp only [List.filter_cons]
        split
        · rename_i hq; rw [if_pos (hz hq)]; simpa using this
        · split <;> simp <;> omega
    obtain ⟨x, hx, hp, hq⟩ := hx
    have hy := h y (by simp)
    rcases List.mem_cons.1 hx with rfl | hx
    · have := hle l fun x hx => h x (List.mem_cons_of_mem _ hx)
      simp only [List.filter_cons, hp, hq, if_true, Bool.false_eq_true, if_false, List.length_cons]
      omega
    · have := filter_lt l (fun x hx => h x (List.mem_cons_of_mem _ hx)) ⟨x, hx, hp, hq⟩
      simp only [List.filter_cons]
      split
      · rename_i hq'; rw [if_pos (hy hq')]; simpa using this
      · split <;> simp <;> omega

end Go.Proofs.YtbmlhmgldipnhabGreatE
