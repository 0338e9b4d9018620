/-
  The engine, part 19: regions, in the text's order and in whatever order.
-/
import Derived.Test.YtbmlhmgldipnhabGreatE18
import Derived.Orders
set_option linter.unusedVariables false
set_option linter.unusedSimpArgs false
namespace Go.Proofs.YtbmlhmgldipnhabGreatE
open Go

/-- An operation of a region: where its value goes, its guard (a slot, what it must hold), the operations ahead of it in every order. -/
structure It where
  i : I
  d : Option Nat
  g : Option (Nat × Bool)
  a : List Nat
  m : Nat
  deriving Inhabited

def skipEv : Ev := ⟨.tup [], [], [], []⟩

/-- One operation from a state. -/
inductive RunIt (P : Program) (s : St) (it : It) (ev : Ev) : Prop where
  | free (hg : it.g = none) (h : OpS P s it.m it.i ev) (hm : it.m ∉ s.nm) (hC : ∀ k, k ∈ ev.C → k ∉ s.nm)
  | held (t : Nat) (b : Bool) (hg : it.g = some (t, b)) (ht : s.get (.t t) = .sc (.bool b)) (h : OpS P s it.m it.i ev) (hm : it.m ∉ s.nm) (hC : ∀ k, k ∈ ev.C → k ∉ s.nm)
  | skip (t : Nat) (b : Bool) (hg : it.g = some (t, b)) (ht : s.get (.t t) = .sc (.bool (!b)) ∨ s.get (.t t) = .tup []) (he : ev = skipEv)

def cGuard (N : Nat) (ops : Array Oper) : Option (Nat × Bool) → Option (Option (Nat × Bool))
  | none => some none
  | some (j, b) => ((ops[j]?).bind (·.dst)).bind fun t => if t < N then some (some (t, b)) else none

/-- 'pre': what stands ahead of the operations so far, in every order. -/
def cIts (P : Program) (N : Nat) (ops : Array Oper) (draw : Bool) : List (List Nat) → List Oper → Option (List It)
  | _, [] => some []
  | pre, o :: os => (compI P o).bind fun i => (cGuard N ops o.guard).bind fun g =>
      if (∀ d, o.dst = some d → d < N) then
        let es := (o.after.toList.filter (Region.binds .any)).map (·.on)
        if es.all (· < pre.length) then
          let a := if draw then (es ++ es.flatMap fun e => pre.getD e []).eraseDups else []
          (cIts P N ops draw (pre ++ [a]) os).map (⟨i, o.dst, g, a, 100 * (o.dst.getD 0 + 1)⟩ :: ·)
        else none
      else none

section
variable {P : Program} {N : Nat} {β : Places} {Z : Froz} {s : St} {a : Act} {w : World} {o : Oper}

theorem rep_bool {v : Value} {b : Bool} (h : CRep β Z w (.sc (.bool b)) v) : v = .bool b := by
  cases h with
  | fro h => cases h with
    | sc => rfl
theorem rep_tup0 {v : Value} (h : CRep β Z w (.tup []) v) : v = .tuple #[] := by
  cases h with
  | fro h => cases h with
    | tup cs us hl hr => congr; exact Array.eq_empty_of_size_eq_zero (by simpa using hl.symm)
  | tup cs us hl hr => congr; exact Array.eq_empty_of_size_eq_zero (by simpa using hl.symm)

theorem get_rep (r : Rel N β Z s a w) (t : Nat) : CRep β Z w (s.get (.t t)) (a.tmps.getD t undef) := by
  show CRep β Z w ((s.env.lookup t).getD .dead) _
  cases e : s.env.lookup t with
  | none => exact .fro (.dead _)
  | some v => exact r.env t v e

theorem RunIt.sound {ops : Array Oper} {it : It} (r : Rel N β Z s a w) (hd : ∀ x, o.dst = some x → x < N) (hi : compI P o = some it.i) (hg : cGuard N ops o.guard = some it.g) (hdst : it.d = o.dst) {ev : Ev} (h : RunIt P s it ev) {K : Act → World → Prop} {Q : Exit → Act → World → Prop}
    (hK : ∀ a' w' β' Z', Rel N β' Z' (s.app it.d ev) a' w' → SExt β Z s w β' Z' (s.app it.d ev) w' → K a' w') :
    if Region.wanted o (yielded ops a.tmps) then o.wp P a w K Q else K (a.put o.dst undef) w := by
  have held : ∀ t b, it.g = some (t, b) → ∃ j, o.guard = some (j, b) ∧ yielded ops a.tmps j = (match a.tmps.getD t undef with | .bool x => some x | _ => none) := fun t b h => by
    rw [h] at hg
    unfold cGuard at hg
    split at hg
    · simp at hg
    · rename_i j b' hgu
      obtain ⟨t', h1, h2⟩ := Option.bind_eq_some_iff.1 hg
      split at h2
      · rename_i hlt
        simp only [Option.some.injEq, Prod.mk.injEq] at h2
        obtain ⟨rfl, rfl⟩ := h2
        refine ⟨j, hgu, ?_⟩
        unfold yielded
        rw [h1, Option.bind_some, Array.getD_eq_getD_getElem?]
        have : t' < a.tmps.size := by rw [r.size]; exact hlt
        rw [Array.getElem?_eq_getElem this]
        simp only [Option.getD_some]
        generalize a.tmps[t'] = q
        cases q <;> rfl
      · cases h2
  have runs : OpS P s it.m it.i ev → it.m ∉ s.nm → (∀ k, k ∈ ev.C → k ∉ s.nm) → o.wp P a w K Q := fun h hm hC =>
    OpS.sound r hd hi h hm hC (fun a' w' β' Z' h1 h2 => hK a' w' β' Z' (by rw [hdst]; exact h1) (by rw [hdst]; exact h2))
  cases h with
  | free hgn h hm hC =>
    have : o.guard = none := by
      rw [hgn] at hg
      unfold cGuard at hg
      split at hg
      · assumption
      · obtain ⟨t', h1, h2⟩ := Option.bind_eq_some_iff.1 hg
        split at h2 <;> simp at h2
    simp only [Region.wanted, this, if_true]
    exact runs h hm hC
  | held t b hgs ht h hm hC =>
    obtain ⟨j, h1, h2⟩ := held t b hgs
    have h3 := get_rep r t
    rw [ht] at h3
    rw [rep_bool h3] at h2
    simp only [Region.wanted, h1, h2, beq_self_eq_true, if_true]
    exact runs h hm hC
  | skip t b hgs ht he =>
    obtain ⟨j, h1, h2⟩ := held t b hgs
    have h3 := get_rep r t
    have hw : Region.wanted o (yielded ops a.tmps) = false := by
      simp only [Region.wanted, h1]
      rcases ht with ht | ht
      · rw [ht] at h3
        rw [h2, rep_bool h3]
        cases b <;> rfl
      · rw [ht] at h3
        rw [h2, rep_tup0 h3]
        rfl
    rw [hw, if_neg (by simp)]
    have hrel : Rel N β Z (s.app it.d ev) (a.put it.d undef) w := by
      subst he
      rw [skipEv, St.app_pure]
      exact r.put (.fro (.tup [] #[] rfl (by simp))) (by rw [hdst]; exact hd)
    have := hK (a.put it.d undef) w β Z hrel (by subst he; rw [skipEv, St.app_pure]; exact SExt.put _ _)
    rwa [hdst] at this

/-! ### in the text's order -/
/-- The operations one after another, and what is asked behind the last. -/
def RegK (P : Program) : List It → St → (St → Prop) → Prop
  | [], s, K => K s
  | it :: its, s, K => ∃ ev, RunIt P s it ev ∧ RegK P its (s.app it.d ev) K

theorem cIts_cons {ops : Array Oper} {draw : Bool} {pre : List (List Nat)} {os : List Oper} {its : List It} (h : cIts P N ops draw pre (o :: os) = some its) :
    ∃ it its', its = it :: its' ∧ compI P o = some it.i ∧ cGuard N ops o.guard = some it.g ∧ it.d = o.dst ∧ (∀ d, o.dst = some d → d < N) ∧ cIts P N ops draw (pre ++ [it.a]) os = some its' ∧
      (∀ e, e ∈ o.after → Region.binds .any e = true → e.on < pre.length) ∧
      (draw = true → ∀ x, x ∈ it.a → ∃ e, e ∈ o.after ∧ Region.binds .any e = true ∧ (x = e.on ∨ x ∈ pre.getD e.on [])) := by
  simp only [cIts, Option.bind_eq_some_iff] at h
  obtain ⟨i, hi, g, hg, h⟩ := h
  split at h
  · rename_i hd
    split at h
    · rename_i hall
      obtain ⟨its', h1, rfl⟩ := Option.map_eq_some_iff.1 h
      refine ⟨_, its', rfl, hi, hg, rfl, hd, h1, fun e he hb => ?_, fun hdr x hx => ?_⟩
      · have := List.all_eq_true.1 hall e.on (List.mem_map.2 ⟨e, List.mem_filter.2 ⟨by simpa using he, hb⟩, rfl⟩)
        simpa using this
      · subst hdr
        simp only [if_true, List.mem_eraseDups, List.mem_append, List.mem_flatMap, List.mem_map, List.mem_filter] at hx
        rcases hx with ⟨e, ⟨he, hb⟩, rfl⟩ | ⟨_, ⟨e, ⟨he, hb⟩, rfl⟩, hx⟩
        · exact ⟨e, by simpa using he, hb, .inl rfl⟩
        · exact ⟨e, by simpa using he, hb, .inr hx⟩
    · cases h
  · cases h

theorem RegK.sound {ops : Array Oper} {draw : Bool} {Q : Exit → Act → World → Prop} {K : St → Prop} : ∀ (l : List Oper) (pre : List (List Nat)) (its : List It) {s : St} {β : Places} {Z : Froz} {a : Act} {w : World}, cIts P N ops draw pre l = some its → RegK P its s K → Rel N β Z s a w →
    (∀ s' a' w' β' Z', K s' → Rel N β' Z' s' a' w' → SExt β Z s w β' Z' s' w' → Q .normal a' w') → wpList P ops Q l a w
  | [], pre, its, s, β, Z, a, w, hc, h, r, hQ => by
    simp only [cIts, Option.some.injEq] at hc
    subst hc
    exact hQ s a w β Z h r (SExt.refl ..)
  | o :: l, pre, its, s, β, Z, a, w, hc, h, r, hQ => by
    obtain ⟨it, its', rfl, h1, h2, h3, h4, h5, _⟩ := cIts_cons hc
    obtain ⟨ev, hr, hk⟩ := h
    refine wpList_step fun K' hK' => ?_
    exact RunIt.sound r h4 h1 h2 h3 hr fun a' w' β' Z' r' e' => hK' _ _ (RegK.sound l _ its' h5 hk r' fun s'' a'' w'' β'' Z'' k r'' e'' => hQ s'' a'' w'' β'' Z'' k r'' (e'.trans e''))

theorem ACode.region {id : Nat} {ops : Array Oper} {its : List It} (hc : cIts P N ops false [] ops.toList = some its) {Q : Exit → St → Prop} {s : St} (h : RegK P its s (Q .normal)) : ACode P N (.region id ops false) s Q := fun β Z a w r =>
  wp_region_list (RegK.sound (K := Q .normal) ops.toList [] its hc h r fun s' a' w' β' Z' q r' e' => ⟨s', β', Z', q, r', e'⟩)

end
end Go.Proofs.YtbmlhmgldipnhabGreatE
