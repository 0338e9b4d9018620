/-
  The engine, part 23: objects take other names, are forgotten, are frozen for good; loops that end a round so.
-/
import Derived.Test.YtbmlhmgldipnhabGreatE22
set_option linter.unusedVariables false
set_option linter.unusedSimpArgs false
namespace Go.Proofs.YtbmlhmgldipnhabGreatE
open Go

mutual
def AV.ren (ρ : Nat → Nat) : AV → AV
  | .sl k sz i len => .sl (ρ k) sz i len
  | .ptr k sz i off => .ptr (ρ k) sz i off
  | .mp k => .mp (ρ k)
  | .agg cs => .agg (rens ρ cs)
  | .tup vs => .tup (rens ρ vs)
  | .fn f a b => .fn f (rens ρ a) (rens ρ b)
  | v => v
def rens (ρ : Nat → Nat) : List AV → List AV
  | [] => []
  | c :: cs => c.ren ρ :: rens ρ cs
end
theorem rens_map (ρ : Nat → Nat) (cs : List AV) : rens ρ cs = cs.map (AV.ren ρ) := by
  induction cs with
  | nil => rfl
  | cons c cs ih => simp [rens, ih]
def Node.ren (ρ : Nat → Nat) : Node → Node
  | .arow sz es => .arow sz (es.map (rens ρ))
  | nd => nd

theorem FRep.ren {Z : Froz} {w : World} {v : AV} {u : Value} (h : FRep Z w v u) (ρ : Nat → Nat) : v.ren ρ = v := by
  induction h with
  | agg cs us hl h1 hr ih =>
    simp only [AV.ren, rens_map]
    congr 1
    exact List.ext_getElem? fun j => by
      rw [List.getElem?_map]
      cases e : cs[j]? with
      | none => rfl
      | some c => simp [ih j c e]
  | tup cs us hl hr ih =>
    simp only [AV.ren, rens_map]
    congr 1
    exact List.ext_getElem? fun j => by
      rw [List.getElem?_map]
      cases e : cs[j]? with
      | none => rfl
      | some c => simp [ih j c e]
  | fn f fs cs us vs hl hl' hr hr' ih ih' =>
    simp only [AV.ren, rens_map]
    congr 1
    · exact List.ext_getElem? fun j => by
        rw [List.getElem?_map]
        cases e : fs[j]? with
        | none => rfl
        | some c => simp [ih j c e]
    · exact List.ext_getElem? fun j => by
        rw [List.getElem?_map]
        cases e : cs[j]? with
        | none => rfl
        | some c => simp [ih' j c e]
  | _ => rfl

theorem CRep.ren {β β' : Places} {Z : Froz} {w : World} {v : AV} {u : Value} {ρ : Nat → Nat} (h : CRep β Z w v u) {l : List Nat} (hβ : ∀ k, k ∈ l → β' (ρ k) = β k) : v.names l = true → CRep β' Z w (v.ren ρ) u := by
  induction h with
  | fro h => exact fun _ => by rw [h.ren]; exact .fro h
  | slE k sz i a => exact fun _ => .slE (ρ k) sz i a
  | sl k sz i len b o cap hb hc hs => exact fun hn => .sl (ρ k) sz i len b o cap (by rw [hβ k (by simpa [AV.names] using hn)]; exact hb) hc hs
  | ptr k sz i off b o hb => exact fun hn => .ptr (ρ k) sz i off b o (by rw [hβ k (by simpa [AV.names] using hn)]; exact hb)
  | mp k b o hb => exact fun hn => .mp (ρ k) b o (by rw [hβ k (by simpa [AV.names] using hn)]; exact hb)
  | agg cs us hl h1 hr ih =>
    intro hn
    simp only [AV.ren, rens_map]
    refine .agg _ us (by simpa using hl) h1 fun j c hc => ?_
    rw [List.getElem?_map] at hc
    obtain ⟨d, hd, rfl⟩ := Option.map_eq_some_iff.1 hc
    exact ih j d hd (namess_get (by simpa [AV.names] using hn) hd)
  | tup cs us hl hr ih =>
    intro hn
    simp only [AV.ren, rens_map]
    refine .tup _ us (by simpa using hl) fun j c hc => ?_
    rw [List.getElem?_map] at hc
    obtain ⟨d, hd, rfl⟩ := Option.map_eq_some_iff.1 hc
    exact ih j d hd (namess_get (by simpa [AV.names] using hn) hd)
  | fn f fs cs us vs hl hl' hr hr' ih ih' =>
    intro hn
    simp only [AV.names, Bool.and_eq_true] at hn
    simp only [AV.ren, rens_map]
    refine .fn f _ _ us vs (by simpa using hl) (by simpa using hl') (fun j c hc => ?_) fun j c hc => ?_
    · rw [List.getElem?_map] at hc
      obtain ⟨d, hd, rfl⟩ := Option.map_eq_some_iff.1 hc
      exact ih j d hd (namess_get hn.1 hd)
    · rw [List.getElem?_map] at hc
      obtain ⟨d, hd, rfl⟩ := Option.map_eq_some_iff.1 hc
      exact ih' j d hd (namess_get hn.2 hd)

theorem NRep.ren {β β' : Places} {Z : Froz} {w : World} {k : Nat} {nd : Node} {ρ : Nat → Nat} (h : NRep β Z w k nd) {l : List Nat} (hβ : ∀ k, k ∈ l → β' (ρ k) = β k) (hk : k ∈ l) (hn : nd.names l = true) : NRep β' Z w (ρ k) (nd.ren ρ) := by
  cases nd with
  | row sz es =>
    rcases h with ⟨h1, h2⟩ | ⟨b, o, h1, h2⟩
    · exact .inl ⟨h1, by rw [hβ k hk]; exact h2⟩
    · exact .inr ⟨b, o, by rw [hβ k hk]; exact h1, h2⟩
  | arow sz es =>
    obtain ⟨b, o, h1, arr, t, g1, g2, g3, g4, g5, g6⟩ := h
    simp only [Node.names, List.all_eq_true] at hn
    refine ⟨b, o, by rw [hβ k hk]; exact h1, arr, t, g1, by simpa using g2, fun i e he => ?_, fun i j c hc => ?_, g5, g6⟩
    · rw [List.getElem?_map] at he
      obtain ⟨d, hd, rfl⟩ := Option.map_eq_some_iff.1 he
      rw [rens_map, List.length_map]
      exact g3 i d hd
    · obtain ⟨e, q1, q2, _, _⟩ := cellAt_lt hc
      rw [List.getElem?_map] at q1
      obtain ⟨d, hd, rfl⟩ := Option.map_eq_some_iff.1 q1
      rw [rens_map, List.getElem?_map] at q2
      obtain ⟨c', hc', rfl⟩ := Option.map_eq_some_iff.1 q2
      exact (g4 i j c' (by simp [cellAt, hd, hc'])).ren hβ (namess_get (hn d (List.mem_of_getElem? hd)) hc')
  | map es =>
    obtain ⟨b, ents, clock, h1, h2⟩ := h
    exact ⟨b, ents, clock, by rw [hβ k hk]; exact h1, h2⟩

/-! ### names -/
def renOf (ps : List (Nat × Nat)) (k : Nat) : Nat := (ps.lookup k).getD k
def backOf (ps : List (Nat × Nat)) (k : Nat) : Nat := ((ps.map fun p => (p.2, p.1)).lookup k).getD k

/-- Only the objects of the list are kept, under other names. -/
def St.take (s : St) (ps : List (Nat × Nat)) : St :=
  { env := s.env.map fun p => (p.1, p.2.ren (renOf ps)), obs := ps.map fun p => (p.2, (s.ob p.1).map (Node.ren (renOf ps))), nm := ps.map (·.2) }

/-- What may be named behind 'take'. -/
def okTake (s : St) (ps : List (Nat × Nat)) : Bool :=
  s.env.all (fun p => p.2.names (ps.map (·.1))) && ps.all (fun p => ((s.ob p.1).map (Node.names (ps.map (·.1)))).getD true) && ps.all (fun p => backOf ps p.2 == p.1 && renOf ps p.1 == p.2) && (s.nm.all fun k => decide (100 ≤ k) || ps.contains (k, k)) && !s.nm.contains 0

theorem lookup_map_ren {l : List (Nat × AV)} {f : AV → AV} {t : Nat} : (l.map fun p => (p.1, f p.2)).lookup t = (l.lookup t).map f := by
  induction l with
  | nil => rfl
  | cons p l ih =>
    obtain ⟨q, v⟩ := p
    simp only [List.map_cons, List.lookup_cons, ih]
    cases t == q <;> rfl
theorem mem_of_lookup {α : Type} {l : List (Nat × α)} {k : Nat} {v : α} (h : l.lookup k = some v) : (k, v) ∈ l := by
  induction l with
  | nil => simp at h
  | cons p l ih =>
    obtain ⟨q, u⟩ := p
    simp only [List.lookup_cons] at h
    by_cases e : k = q
    · subst e; simp at h; simp [h]
    · have : (k == q) = false := by simpa using e
      rw [this] at h
      exact List.mem_cons_of_mem _ (ih h)

theorem Wk.take {s : St} {ps : List (Nat × Nat)} (h : okTake s ps = true) : Wk s (s.take ps) := fun N β Z a w r => by
  simp only [okTake, Bool.and_eq_true] at h
  obtain ⟨⟨⟨⟨h1, h2⟩, h3⟩, h4⟩, h5⟩ := h
  have h5 : 0 ∉ s.nm := by simpa using h5
  rw [List.all_eq_true] at h1 h2 h3 h4
  let β' : Places := fun k => if k ∈ ps.map (·.2) then β (backOf ps k) else none
  have hb : ∀ p, p ∈ ps → β' p.2 = β p.1 := fun p hp => by
    have := h3 p hp
    simp only [Bool.and_eq_true, beq_iff_eq] at this
    show (if p.2 ∈ ps.map (·.2) then β (backOf ps p.2) else none) = _
    rw [if_pos (List.mem_map.2 ⟨p, hp, rfl⟩), this.1]
  have hρ : ∀ k, k ∈ ps.map (·.1) → β' (renOf ps k) = β k := fun k hk => by
    obtain ⟨p, hp, rfl⟩ := List.mem_map.1 hk
    have := h3 p hp
    simp only [Bool.and_eq_true, beq_iff_eq] at this
    rw [this.2]
    exact hb p hp
  have hob : ∀ k' nd', (s.take ps).ob k' = some nd' → ∃ p nd, p ∈ ps ∧ p.2 = k' ∧ s.ob p.1 = some nd ∧ nd' = nd.ren (renOf ps) := fun k' nd' hk => by
    unfold St.ob St.take at hk
    simp only at hk
    cases e : (ps.map fun p => (p.2, (s.ob p.1).map (Node.ren (renOf ps)))).lookup k' with
    | none => rw [e] at hk; cases hk
    | some x =>
      rw [e] at hk
      simp only [Option.getD_some] at hk
      subst hk
      obtain ⟨p, hp, hpe⟩ := List.mem_map.1 (mem_of_lookup e)
      simp only [Prod.mk.injEq] at hpe
      obtain ⟨nd, hnd, hn⟩ := Option.map_eq_some_iff.1 hpe.2
      exact ⟨p, nd, hp, hpe.1, hnd, hn.symm⟩
  have hβ : ∀ k p, β' k = some p → k ∈ ps.map (·.2) ∧ β (backOf ps k) = some p := fun k p hk => by
    by_cases e : k ∈ ps.map (·.2)
    · exact ⟨e, by simpa [β', e] using hk⟩
    · simp [β', e] at hk
  refine ⟨β', Z, ⟨⟨fun k' nd' hk => ?_, fun k k' nd nd' b o o' g1 g2 g3 g4 => ?_, r.froz, fun k b o hk => r.dom _ _ _ (hβ k _ hk).2, fun k p hk => (hβ k p hk).1⟩, fun t v ht => ?_, r.size, r.defers⟩, { SExt.refl β Z s w with owned := fun b hb' ⟨k, nd, o, g1, g2⟩ => ?_, low := fun k hk hs => ?_ }⟩
  · obtain ⟨p, nd, hp, rfl, g1, rfl⟩ := hob k' nd' hk
    have := h3 p hp
    simp only [Bool.and_eq_true, beq_iff_eq] at this
    have hn := h2 p hp
    rw [g1] at hn
    have := (r.node p.1 nd g1).ren hρ (List.mem_map.2 ⟨p, hp, rfl⟩) (by simpa using hn)
    rwa [show renOf ps p.1 = p.2 by have := h3 p hp; simp only [Bool.and_eq_true, beq_iff_eq] at this; exact this.2] at this
  · obtain ⟨p, n1, hp, rfl, q1, rfl⟩ := hob k nd g1
    obtain ⟨p', n2, hp', rfl, q2, rfl⟩ := hob k' nd' g2
    rw [hb p hp] at g3
    rw [hb p' hp'] at g4
    have e1 := r.inj _ _ _ _ _ _ _ q1 q2 g3 g4
    have a1 := h3 p hp
    have a2 := h3 p' hp'
    simp only [Bool.and_eq_true, beq_iff_eq] at a1 a2
    rw [← a1.2, ← a2.2, e1]
  · simp only [St.take, lookup_map_ren] at ht
    obtain ⟨v0, hv0, rfl⟩ := Option.map_eq_some_iff.1 ht
    exact (r.env t v0 hv0).ren hρ (h1 _ (mem_of_lookup hv0))
  · obtain ⟨p, n1, hp, rfl, q1, rfl⟩ := hob k nd g1
    rw [hb p hp] at g2
    exact ⟨p.1, n1, o, q1, g2⟩
  · have := h4 k hs
    simp only [Bool.or_eq_true, decide_eq_true_eq, List.contains_eq_mem] at this
    have hk := hk.resolve_right h5
    have hp := this.resolve_left (by omega)
    exact ⟨hb (k, k) hp, List.mem_map.2 ⟨_, hp, rfl⟩⟩

/-! ### frozen for good -/
def St.freeze (s : St) (T : List Nat) (env : List (Nat × AV)) : St := { env := env, obs := T.map (fun k => (k, none)) ++ s.obs, nm := s.nm }

theorem Wk.freeze {s : St} {T : List Nat} {env : List (Nat × AV)} (h : ∀ t v', env.lookup t = some v' → ∃ v, s.env.lookup t = some v ∧ Frz s T v v') : Wk s (s.freeze T env) := fun N β Z a w r => by
  have hob : ∀ k nd, (s.freeze T env).ob k = some nd → k ∉ T ∧ s.ob k = some nd := fun k nd hk => by
    unfold St.ob St.freeze at hk
    simp only [lookup_append] at hk
    have hl : ∀ (T : List Nat), (T.map fun k => (k, (none : Option Node))).lookup k = if k ∈ T then some none else none := by
      intro T
      induction T with
      | nil => simp
      | cons x T ih =>
        simp only [List.map_cons, List.lookup_cons, ih, List.mem_cons]
        by_cases e : k = x
        · simp [e]
        · have : (k == x) = false := by simpa using e
          simp [this, e]
    rw [hl T] at hk
    by_cases e : k ∈ T
    · simp [e] at hk
    · refine ⟨e, ?_⟩
      simpa [e, St.ob] using hk
  have kT := FrozT.keeps β Z s T w
  refine ⟨β, FrozT β Z s T, ⟨⟨fun k nd hk => ?_, fun k k' nd nd' b o o' g1 g2 => r.inj _ _ _ _ _ _ _ (hob _ _ g1).2 (hob _ _ g2).2, fun b x hz => ?_, r.dom, r.names⟩, fun t v' ht => ?_, r.size, r.defers⟩, { SExt.refl β Z s w with keeps := kT, frz := fun b x hb hz => ?_, owned := fun b hb ⟨k, nd, o, g1, g2⟩ => ⟨k, nd, o, (hob _ _ g1).2, g2⟩ }⟩
  · obtain ⟨hk1, hk2⟩ := hob k nd hk
    refine (r.node k nd hk2).on kT (fun _ _ h => h) rfl fun b o hb => ⟨rfl, fun x hx => ?_⟩
    rcases hx with hx | ⟨k', nd', o', q1, q2, q3⟩
    · exact hx
    · have := r.inj _ _ _ _ _ _ _ hk2 q2 hb q3
      subst this
      exact absurd q1 hk1
  · rcases hz with hz | ⟨k', nd', o', q1, q2, q3⟩
    · exact r.froz _ _ hz
    · exact r.dom _ _ _ q3
  · obtain ⟨v, hv, hf⟩ := h t v' ht
    exact Frz.sound r.toObjs hf (r.env t v hv)
  · rcases hz with hz | ⟨k', nd', o', q1, q2, q3⟩
    · exact .inl hz
    · exact .inr ⟨k', nd', o', q2, q3⟩

/-- Nothing but a nil slice: an object that isn't there yet. -/
def St.phantom (s : St) (t k sz : Nat) : St := { env := (t, .sl k sz 0 0) :: s.env, obs := (k, some (.row sz [])) :: s.obs, nm := k :: s.nm }
theorem Wk.phantom {s : St} {t k sz : Nat} (ht : s.get (.t t) = .nils) (hk : k ∉ s.nm) : Wk s (s.phantom t k sz) := fun N β Z a w r => by
  have h0 := r.unnamed hk
  have hob : ∀ j nd, (s.phantom t k sz).ob j = some nd → (j = k ∧ nd = .row sz []) ∨ (j ≠ k ∧ s.ob j = some nd) := fun j nd hj => by
    unfold St.ob St.phantom at hj
    by_cases e : j = k
    · subst e; simp [lookup_cons_eq] at hj; exact .inl ⟨rfl, hj.symm⟩
    · simp only [lookup_cons_ne e] at hj; exact .inr ⟨e, hj⟩
  refine ⟨β, Z, ⟨⟨fun j nd hj => ?_, fun j j' nd nd' b o o' g1 g2 g3 g4 => ?_, r.froz, r.dom, fun j p hp => List.mem_cons_of_mem _ (r.names j p hp)⟩, fun t' v' ht' => ?_, r.size, r.defers⟩, { SExt.refl β Z s w with owned := fun b hb ⟨j, nd, o, g1, g2⟩ => ?_, low := fun j _ hj => ⟨rfl, List.mem_cons_of_mem _ hj⟩ }⟩
  · rcases hob j nd hj with ⟨rfl, rfl⟩ | ⟨_, hj⟩
    · exact .inl ⟨rfl, h0⟩
    · exact r.node j nd hj
  · rcases hob j nd g1 with ⟨rfl, rfl⟩ | ⟨_, g1⟩
    · rw [h0] at g3; cases g3
    · rcases hob j' nd' g2 with ⟨rfl, rfl⟩ | ⟨_, g2⟩
      · rw [h0] at g4; cases g4
      · exact r.inj _ _ _ _ _ _ _ g1 g2 g3 g4
  · by_cases e : t' = t
    · subst e
      simp only [St.phantom, lookup_cons_eq, Option.some.injEq] at ht'
      subst ht'
      have hv := get_rep r t'
      rw [ht] at hv
      generalize a.tmps.getD t' undef = u at hv
      cases hv with
      | fro hv => cases hv; exact .slE k sz 0 none
    · simp only [St.phantom, lookup_cons_ne e] at ht'
      exact r.env t' v' ht'
  · rcases hob j nd g1 with ⟨rfl, rfl⟩ | ⟨_, g1⟩
    · rw [h0] at g2; cases g2
    · exact ⟨j, nd, o, g1, g2⟩

end Go.Proofs.YtbmlhmgldipnhabGreatE
