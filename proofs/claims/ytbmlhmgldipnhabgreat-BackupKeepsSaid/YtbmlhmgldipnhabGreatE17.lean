/-
  The engine, part 17: a call by a contract.
-/
import Derived.Test.YtbmlhmgldipnhabGreatE16
set_option linter.unusedVariables false
set_option linter.unusedSimpArgs false
namespace Go.Proofs.YtbmlhmgldipnhabGreatE
open Go

def Node.names (l : List Nat) : Node → Bool
  | .arow _ es => es.all (namess l)
  | _ => true

/-- A state, once a call has come back. -/
def St.called (s : St) (d : Option Nat) (r : AV) (n : Nat) (pre post : List (Nat × Node)) : St :=
  { env := (s.put d (bindR n r).1).env, obs := ((bindR n r).2 ++ post).map (fun p => (p.1, some p.2)) ++ (pre.map (fun p => (p.1, none)) ++ s.obs), nm := keys (bindR n r).2 ++ s.nm }

theorem lookup_map_none {l : List (Nat × Node)} {k : Nat} : (l.map fun p => (p.1, (none : Option Node))).lookup k = if k ∈ keys l then some none else none := by
  induction l with
  | nil => simp [keys]
  | cons p l ih =>
    obtain ⟨q, u⟩ := p
    simp only [List.map_cons, List.lookup_cons, ih]
    by_cases e : k = q
    · simp [keys, e]
    · have : (k == q) = false := by simpa using e
      simp only [this, keys, List.map_cons, List.mem_cons, e, false_or]; rfl

theorem mem_keys_of {α : Type} {l : List (Nat × α)} {k : Nat} (h : k ∈ keys l) : ∃ v, l.lookup k = some v := by
  induction l with
  | nil => simp [keys] at h
  | cons p l ih =>
    obtain ⟨q, u⟩ := p
    by_cases e : k = q
    · exact ⟨u, by simp [List.lookup_cons, e]⟩
    · have : (k == q) = false := by simpa using e
      simp only [keys, List.map_cons, List.mem_cons, e, false_or] at h
      obtain ⟨v, hv⟩ := ih h
      exact ⟨v, by simp [List.lookup_cons, this, hv]⟩
theorem keys_append {α : Type} (l m : List (Nat × α)) : keys (l ++ m) = keys l ++ keys m := by simp [keys]

theorem St.called_ob (s : St) (d : Option Nat) (r : AV) (n : Nat) (pre post : List (Nat × Node)) (k : Nat) :
    (s.called d r n pre post).ob k = match ((bindR n r).2 ++ post).lookup k with
      | some nd => some nd
      | none => if k ∈ keys pre then none else s.ob k := by
  unfold St.ob St.called
  simp only [lookup_append, lookup_map_some, lookup_map_none]
  cases h : ((bindR n r).2.lookup k).or (post.lookup k) with
  | some nd =>
    simp only [List.map_append, lookup_append, lookup_map_some]
    cases h1 : (bindR n r).2.lookup k with
    | some x => simp [h1] at h; simp [h]
    | none => simp [h1] at h; simp [h]
  | none =>
    simp only [List.map_append, lookup_append, lookup_map_some]
    simp only [Option.or_eq_none_iff] at h
    by_cases e : k ∈ keys pre <;> simp [h.1, h.2, e]

section
variable {P : Program} {N : Nat} {β : Places} {Z : Froz} {s : St} {a : Act} {w : World}

theorem NRep.za {β : Places} {Z Za : Froz} {w : World} {k : Nat} {nd : Node} (h : NRep β Z w k nd) (hz : ∀ b x, Za b x → Z b x) (hn : nd.noF = true) : NRep β Za w k nd := by
  cases nd with
  | row sz es =>
    rcases h with h | ⟨b, o, h1, h2⟩
    · exact .inl h
    · refine .inr ⟨b, o, h1, ?_⟩
      obtain ⟨arr, t, g1, g2, g3, g4, g5, g6⟩ := h2
      refine ⟨arr, t, g1, g2, g3, fun i j c hc => ?_, fun x hx hz' => g5 x hx (hz b x hz'), g6⟩
      obtain ⟨e, q1, q2, _, _⟩ := cellAt_lt hc
      exact (g4 i j c hc).noF (noFs_get (noFss_get hn q1) q2)
  | arow sz es =>
    obtain ⟨b, o, h1, h2⟩ := h
    refine ⟨b, o, h1, ?_⟩
    obtain ⟨arr, t, g1, g2, g3, g4, g5, g6⟩ := h2
    refine ⟨arr, t, g1, g2, g3, fun i j c hc => ?_, fun x hx hz' => g5 x hx (hz b x hz'), g6⟩
    obtain ⟨e, q1, q2, _, _⟩ := cellAt_lt hc
    exact (g4 i j c hc).noF (noFs_get (noFss_get hn q1) q2)
  | map es => simp [Node.noF] at hn

theorem call_sound (r : Rel N β Z s a w) {f : FuncId} {vals : Array Value} {vs args : List AV} {pre post : List (Nat × Node)} {res : AV} (hc : LCall P f args pre res post) (hv : Reps β Z w vs vals) {T : List Nat}
    (hl : vs.length = args.length) (hf : ∀ (j : Nat) (v v' : AV), vs[j]? = some v → args[j]? = some v' → Frz s T v v') (hn : namess (keys pre) args = true)
    (hp : ∀ k nd, pre.lookup k = some nd → s.ob k = some nd) (hpn : ∀ k nd, pre.lookup k = some nd → nd.names (keys pre) = true) (hT : ∀ k, k ∈ T → k ∉ keys pre) (hpost : ∀ k, k ∈ keys post → k ∈ keys pre)
    {n : Nat} (h100 : 100 ≤ n) (hz : T = [] ∨ ((bindR n res).1.noF = true ∧ ∀ k nd, ((bindR n res).2 ++ post).lookup k = some nd → nd.noF = true)) (hnew : ∀ k, k ∈ keys (bindR n res).2 → k ∉ s.nm ∧ k ∉ keys pre) {d : Option Nat} (hd : ∀ x, d = some x → x < N) :
    Calls P f vals w fun e w' => ∃ v, e = .returned v ∧ ∃ β' Z', Rel N β' Z' (s.called d res n pre post) (a.put d v) w' ∧ SExt β Z s w β' Z' (s.called d res n pre post) w' := by
  -- the places of the objects that are handed over; what stands still
  let βp : Places := fun k => if k ∈ keys pre then β k else none
  let ZT := FrozT β Z s T
  have hβp : ∀ k, k ∈ keys pre → βp k = β k := fun k hk => if_pos hk
  have kT := FrozT.keeps β Z s T w
  have hsub : ∀ k p, βp k = some p → k ∈ keys pre ∧ β k = some p := fun k p h => by
    by_cases e : k ∈ keys pre
    · exact ⟨e, by rwa [hβp k e] at h⟩
    · simp [βp, e] at h
  have hob : ∀ k nd, (stOf pre).ob k = some nd → pre.lookup k = some nd := fun k nd h => by rwa [stOf_ob] at h
  have hpk : ∀ k nd, pre.lookup k = some nd → k ∈ keys pre := fun k nd h => mem_keys_of_lookup h
  -- no object that is handed over stands still
  have apart : ∀ k nd b o x, pre.lookup k = some nd → β k = some (b, o) → ZT b x → Z b x := fun k nd b o x h1 h2 h3 => by
    rcases h3 with h3 | ⟨k', nd', o', h4, h5, h6⟩
    · exact h3
    · have := r.inj k k' nd nd' b o o' (hp _ _ h1) h5 h2 h6
      subst this
      exact absurd (hpk _ _ h1) (hT _ h4)
  have hobjs : Objs βp ZT (stOf pre) w := by
    refine ⟨fun k nd hk => ?_, fun k k' nd nd' b o o' h1 h2 h3 h4 => r.inj k k' nd nd' b o o' (hp _ _ (hob _ _ h1)) (hp _ _ (hob _ _ h2)) (hsub _ _ h3).2 (hsub _ _ h4).2, fun b x hz => ?_, fun k b o hk => r.dom k b o (hsub _ _ hk).2, fun k p hk => (hsub _ _ hk).1⟩
    · have hk' := hob _ _ hk
      have hkk := hpk _ _ hk'
      have h1 := r.node k nd (hp _ _ hk')
      have hnn := hpn _ _ hk'
      have ap : ∀ b o x, β k = some (b, o) → ZT b x → Z b x := fun b o x h1 h2 => apart k nd b o x hk' h1 h2
      cases nd with
      | row sz es =>
        rcases h1 with ⟨h1, h2⟩ | ⟨b, o, h1, h2⟩
        · exact .inl ⟨h1, by rw [hβp k hkk]; exact h2⟩
        · exact .inr ⟨b, o, by rw [hβp k hkk]; exact h1, (h2.imp rfl fun c u hc => hc.keeps kT).z fun x hx => ap b o x h1 hx⟩
      | arow sz es =>
        obtain ⟨b, o, h1, arr, t, g1, g2, g3, g4, g5, g6⟩ := h1
        refine ⟨b, o, by rw [hβp k hkk]; exact h1, arr, t, g1, g2, g3, fun i j c hc => ?_, fun x hx hz' => g5 x hx (ap b o x h1 hz'), g6⟩
        obtain ⟨e, q1, q2, _, _⟩ := cellAt_lt hc
        simp only [Node.names, List.all_eq_true] at hnn
        exact ((g4 i j c hc).keeps kT (fun _ _ h => h)).named (l := keys pre) hβp (namess_get (hnn e (List.mem_of_getElem? q1)) q2)
      | map es =>
        obtain ⟨b, ents, clock, h1, h2, h3, h5, h4⟩ := h1
        exact ⟨b, ents, clock, by rw [hβp k hkk]; exact h1, h2, h3, fun hz => h5 (ap b 0 0 h1 hz), fun i p hp => by obtain ⟨e, e1, e2, e3⟩ := h4 i p hp; exact ⟨e, e1, e2.keeps kT, e3.keeps kT⟩⟩
    · rcases hz with hz | ⟨k', nd', o', h4, h5, h6⟩
      · exact r.froz b x hz
      · exact r.dom k' b o' h6
  have hreps : Reps βp ZT w args vals := by
    refine ⟨by rw [← hl]; exact hv.1, fun j c hj => ?_⟩
    have hjl : j < vs.length := by rw [hl]; exact (List.getElem?_eq_some_iff.1 hj).1
    have h1 := hv.2 j _ (List.getElem?_eq_getElem hjl)
    exact (Frz.sound r.toObjs (hf j _ c (List.getElem?_eq_getElem hjl) hj) h1).named (l := keys pre) hβp (namess_get hn hj)
  refine (hc βp ZT w vals hobjs hreps).mono ?_
  rintro e w' ⟨v, rfl, hpost'⟩
  refine ⟨v, rfl, ?_⟩
  obtain ⟨β', Z', hcv, ho', hs', hsame⟩ := hpost' n h100 fun k hk hk' => (hnew k hk').2 hk
  -- what is owned among the objects that were handed over
  have hown : ∀ b, Owned βp (stOf pre) b → ∃ k nd o, pre.lookup k = some nd ∧ β k = some (b, o) := fun b ⟨k, nd, o, h1, h2⟩ => ⟨k, nd, o, hob _ _ h1, (hsub _ _ h2).2⟩
  have hown' : ∀ b, Owned βp (stOf pre) b → Owned β s b := fun b h => by
    obtain ⟨k, nd, o, h1, h2⟩ := hown b h
    exact ⟨k, nd, o, hp _ _ h1, h2⟩
  have hZZ' : ∀ b x, Z b x → Z' b x := fun b x h => hs'.keeps.froz b x (.inl h)
  have hkZ : Keeps Z w Z' w' := ⟨hZZ', fun b x u h => hs'.keeps.cell b x u (.inl h), fun b es c h => hs'.keeps.map b es c (.inl h), hs'.keeps.shape⟩
  obtain ⟨Za, hZ1, hZ2, hZ3, hZ4, hZ5, hZ6⟩ : ∃ Za : Froz, (∀ b x, Z b x → Za b x) ∧ Keeps Z w Za w' ∧ (∀ b x, b < w.heap.size → Za b x → Z b x ∨ Owned βp (stOf pre) b) ∧ CRep β' Za w' (bindR n res).1 v ∧
      (∀ k nd, ((bindR n res).2 ++ post).lookup k = some nd → NRep β' Za w' k nd) ∧ ∀ b x, Za b x → Z' b x := by
    rcases hz with hT0 | ⟨hn1, hn2⟩
    · refine ⟨Z', hZZ', hkZ, fun b x hb hz => ?_, hcv, fun k nd h => ho'.node k nd (by rwa [stFin_ob]), fun _ _ h => h⟩
      rcases hs'.frz b x hb hz with h | h
      · rcases h with h | ⟨k', nd', o', h4, h5, h6⟩
        · exact .inl h
        · rw [hT0] at h4; cases h4
      · exact .inr h
    · exact ⟨Z, fun _ _ h => h, ⟨fun _ _ h => h, hkZ.cell, hkZ.map, hkZ.shape⟩, fun b x _ h => .inl h, hcv.noF hn1, fun k nd h => (ho'.node k nd (by rwa [stFin_ob])).za hZZ' (hn2 k nd h), hZZ'⟩
  let β'' : Places := fun k => if k ∈ keys ((bindR n res).2 ++ post) then β' k else β k
  have hin : ∀ k, k ∈ keys ((bindR n res).2 ++ post) → β'' k = β' k := fun k h => if_pos h
  have hout : ∀ k, k ∉ keys ((bindR n res).2 ++ post) → β'' k = β k := fun k h => if_neg h
  have hb1 : ∀ k p, β' k = some p → β'' k = some p := fun k p h => by
    by_cases e : k ∈ keys ((bindR n res).2 ++ post)
    · rw [hin k e]; exact h
    · rw [hout k e]
      have hm : k ∈ keys (bindR n res).2 ++ keys pre := ho'.names k p h
      rcases List.mem_append.1 hm with hm | hm
      · exact absurd (by rw [keys_append]; exact List.mem_append.2 (.inl hm)) e
      · rw [hsame k hm, hβp k hm] at h; exact h
  have hb2 : ∀ k p, β k = some p → β'' k = some p := fun k p h => by
    by_cases e : k ∈ keys ((bindR n res).2 ++ post)
    · rw [hin k e]
      rw [keys_append, List.mem_append] at e
      rcases e with e | e
      · exact absurd (r.names k p h) (hnew k e).1
      · rw [hsame k (hpost k e), hβp k (hpost k e)]; exact h
    · rw [hout k e]; exact h
  have hcase : ∀ k nd, (s.called d res n pre post).ob k = some nd → (((bindR n res).2 ++ post).lookup k = some nd ∧ k ∈ keys ((bindR n res).2 ++ post)) ∨ (k ∉ keys ((bindR n res).2 ++ post) ∧ k ∉ keys pre ∧ s.ob k = some nd) := fun k nd h => by
    rw [St.called_ob] at h
    cases e : ((bindR n res).2 ++ post).lookup k with
    | some x =>
      rw [e] at h
      exact .inl ⟨h, mem_keys_of_lookup e⟩
    | none =>
      rw [e] at h
      by_cases e2 : k ∈ keys pre
      · simp [e2] at h
      · refine .inr ⟨fun h' => ?_, e2, by simpa [e2] using h⟩
        obtain ⟨x, hx⟩ := mem_keys_of h'
        rw [e] at hx; cases hx
  -- an old object that was not handed over
  have hfree : ∀ k nd b o, k ∉ keys pre → s.ob k = some nd → β k = some (b, o) → ¬ Owned βp (stOf pre) b := fun k nd b o h1 h2 h3 h4 => by
    obtain ⟨k', nd', o', g1, g2⟩ := hown b h4
    have := r.inj k k' nd nd' b o o' h2 (hp _ _ g1) h3 g2
    subst this
    exact h1 (hpk _ _ g1)
  have hcross : ∀ k k' nd nd' b o o', ((bindR n res).2 ++ post).lookup k = some nd → β' k = some (b, o) → k' ∉ keys pre → s.ob k' = some nd' → β k' = some (b, o') → False := fun k k' nd nd' b o o' h1 h2 h3 h4 h5 =>
    hfree k' nd' b o' h3 h4 h5 (hs'.owned b (r.dom k' b o' h5) ⟨k, nd, o, by rwa [stFin_ob], h2⟩)
  refine ⟨β'', Za, ⟨⟨fun k nd hk => ?_, fun k k' nd nd' b o o' h1 h2 h3 h4 => ?_, fun b x h => ho'.froz b x (hZ6 b x h), fun k b o h => ?_, fun k p h => ?_⟩, ?_, ?_, ?_⟩, ⟨hs'.os, hs'.tape, hs'.output, hs'.size, hZ2, fun b hb h => hs'.frame b hb fun h' => h (hown' b h'), fun b x hb h => (hZ3 b x hb h).imp id (hown' b), fun b hb ⟨k, nd, o, h1, h2⟩ => ?_, fun k _ hk => ⟨?_, List.mem_append.2 (.inr hk)⟩⟩⟩
  · rcases hcase k nd hk with ⟨h1, h2⟩ | ⟨h1, h2, h3⟩
    · exact (hZ5 k nd h1).on (Keeps.refl _ _) hb1 (hin k h2) fun b o _ => ⟨rfl, fun _ h => h⟩
    · exact (r.node k nd h3).on hZ2 hb2 (hout k h1) fun b o hb => by
        have hnot := hfree k nd b o h2 h3 hb
        exact ⟨hs'.frame b (r.dom k b o hb) hnot, fun x hx => (hZ3 b x (r.dom k b o hb) hx).resolve_right hnot⟩
  · rcases hcase k nd h1 with ⟨g1, g2⟩ | ⟨g1, g2, g3⟩ <;> rcases hcase k' nd' h2 with ⟨q1, q2⟩ | ⟨q1, q2, q3⟩
    · rw [hin k g2] at h3; rw [hin k' q2] at h4
      exact ho'.inj k k' nd nd' b o o' (by rwa [stFin_ob]) (by rwa [stFin_ob]) h3 h4
    · rw [hin k g2] at h3; rw [hout k' q1] at h4
      exact (hcross k k' nd nd' b o o' g1 h3 q2 q3 h4).elim
    · rw [hout k g1] at h3; rw [hin k' q2] at h4
      exact (hcross k' k nd' nd b o' o q1 h4 g2 g3 h3).elim
    · rw [hout k g1] at h3; rw [hout k' q1] at h4
      exact r.inj k k' nd nd' b o o' g3 q3 h3 h4
  · by_cases e : k ∈ keys ((bindR n res).2 ++ post)
    · rw [hin k e] at h; exact ho'.dom k b o h
    · rw [hout k e] at h; exact Nat.lt_of_lt_of_le (r.dom k b o h) hs'.size
  · show k ∈ keys (bindR n res).2 ++ s.nm
    by_cases e : k ∈ keys ((bindR n res).2 ++ post)
    · rw [hin k e] at h
      rw [keys_append, List.mem_append] at e
      refine List.mem_append.2 (e.imp id fun e => ?_)
      rw [hsame k (hpost k e)] at h
      exact r.names k p (hsub _ _ h).2
    · rw [hout k e] at h; exact List.mem_append.2 (.inr (r.names k p h))
  · exact env_put r.size (fun t v h => (r.env t v h).keeps hZ2 hb2) (hZ4.keeps (Keeps.refl _ _) hb1) hd
  · rw [put_size, r.size]
  · rw [put_defers, r.defers]
  · rcases hcase k nd h1 with ⟨g1, g2⟩ | ⟨g1, g2, g3⟩
    · rw [hin k g2] at h2
      exact hown' b (hs'.owned b hb ⟨k, nd, o, by rwa [stFin_ob], h2⟩)
    · rw [hout k g1] at h2
      exact ⟨k, nd, o, g3, h2⟩
  · by_cases e : k ∈ keys ((bindR n res).2 ++ post)
    · have e' := e
      rw [keys_append, List.mem_append] at e
      rcases e with e | e
      · exact absurd hk (hnew k e).1
      · exact (hin k e').trans ((hsame k (hpost k e)).trans (hβp k (hpost k e)))
    · exact hout k e

end
end Go.Proofs.YtbmlhmgldipnhabGreatE
