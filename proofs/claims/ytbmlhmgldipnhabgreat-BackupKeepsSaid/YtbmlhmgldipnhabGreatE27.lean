/-
  The engine, part 27: a contract at other objects.
-/
import Derived.Test.YtbmlhmgldipnhabGreatE26
set_option linter.unusedVariables false
set_option linter.unusedSimpArgs false
namespace Go.Proofs.YtbmlhmgldipnhabGreatE
open Go

mutual
theorem AV.ren_ren {ρ σ : Nat → Nat} {l : List Nat} (h : ∀ k, k ∈ l → σ (ρ k) = k) : ∀ (v : AV), v.names l = true → (v.ren ρ).ren σ = v
  | .sl k sz i len, hn => by simp [AV.ren, h k (by simpa [AV.names] using hn)]
  | .ptr k sz i off, hn => by simp [AV.ren, h k (by simpa [AV.names] using hn)]
  | .mp k, hn => by simp [AV.ren, h k (by simpa [AV.names] using hn)]
  | .agg cs, hn => by simp only [AV.ren, rens_rens h cs (by simpa [AV.names] using hn)]
  | .tup cs, hn => by simp only [AV.ren, rens_rens h cs (by simpa [AV.names] using hn)]
  | .fn f a b, hn => by
    simp only [AV.names, Bool.and_eq_true] at hn
    simp only [AV.ren, rens_rens h a hn.1, rens_rens h b hn.2]
  | .dead, _ => rfl
  | .sc _, _ => rfl
  | .nils, _ => rfl
  | .fsl _ _, _ => rfl
  | .fp _, _ => rfl
  | .fmp _, _ => rfl
  | .own _ _, hn => by simp [AV.names] at hn
  | .optr _, hn => by simp [AV.names] at hn
  | .omap _, hn => by simp [AV.names] at hn
theorem rens_rens {ρ σ : Nat → Nat} {l : List Nat} (h : ∀ k, k ∈ l → σ (ρ k) = k) : ∀ (cs : List AV), namess l cs = true → rens σ (rens ρ cs) = cs
  | [], _ => rfl
  | c :: cs, hn => by
    simp only [namess, Bool.and_eq_true] at hn
    simp only [rens, AV.ren_ren h c hn.1, rens_rens h cs hn.2]
end
mutual
theorem AV.names_ren {ρ : Nat → Nat} {l l' : List Nat} (h : ∀ k, k ∈ l → ρ k ∈ l') : ∀ (v : AV), v.names l = true → (v.ren ρ).names l' = true
  | .sl k sz i len, hn => by have := h k (by simpa [AV.names] using hn); simpa [AV.ren, AV.names] using this
  | .ptr k sz i off, hn => by have := h k (by simpa [AV.names] using hn); simpa [AV.ren, AV.names] using this
  | .mp k, hn => by have := h k (by simpa [AV.names] using hn); simpa [AV.ren, AV.names] using this
  | .agg cs, hn => by simpa only [AV.ren, AV.names] using namess_rens h cs (by simpa [AV.names] using hn)
  | .tup cs, hn => by simpa only [AV.ren, AV.names] using namess_rens h cs (by simpa [AV.names] using hn)
  | .fn f a b, hn => by
    simp only [AV.names, Bool.and_eq_true] at hn
    simp only [AV.ren, AV.names, namess_rens h a hn.1, namess_rens h b hn.2, Bool.and_self]
  | .dead, _ => rfl
  | .sc _, _ => rfl
  | .nils, _ => rfl
  | .fsl _ _, _ => rfl
  | .fp _, _ => rfl
  | .fmp _, _ => rfl
  | .own _ _, hn => by simp [AV.names] at hn
  | .optr _, hn => by simp [AV.names] at hn
  | .omap _, hn => by simp [AV.names] at hn
theorem namess_rens {ρ : Nat → Nat} {l l' : List Nat} (h : ∀ k, k ∈ l → ρ k ∈ l') : ∀ (cs : List AV), namess l cs = true → namess l' (rens ρ cs) = true
  | [], _ => rfl
  | c :: cs, hn => by
    simp only [namess, Bool.and_eq_true] at hn
    simp only [namess, rens, AV.names_ren h c hn.1, namess_rens h cs hn.2, Bool.and_self]
end

def renKeys (ρ : Nat → Nat) (l : List (Nat × Node)) : List (Nat × Node) := l.map fun p => (ρ p.1, p.2)
theorem renKeys_keys (ρ : Nat → Nat) (l : List (Nat × Node)) : keys (renKeys ρ l) = (keys l).map ρ := by simp [keys, renKeys]

/-- What may be asked of the objects and the result, so that they may be renamed. -/
def okRen (pre post : List (Nat × Node)) (r : AV) : Prop :=
  (∀ p, p ∈ pre → p.2.isRow = true) ∧ (∀ p, p ∈ post → p.2.isRow = true) ∧ (∀ k, k ∈ keys pre → k < 100) ∧ (∀ k, k ∈ keys post → k ∈ keys pre) ∧
  ∀ n, 100 ≤ n → (bindR n r).1.names (keys (bindR n r).2) = true ∧ ∀ p, p ∈ (bindR n r).2 → p.2.isRow = true ∧ 100 ≤ p.1

theorem lookup_renKeys {ρ : Nat → Nat} : ∀ (l : List (Nat × Node)) (k : Nat) (nd : Node), (renKeys ρ l).lookup k = some nd → ∃ k0, ρ k0 = k ∧ l.lookup k0 = some nd
  | [], k, nd, h => by simp [renKeys] at h
  | (q, u) :: l, k, nd, h => by
    have h' : ((ρ q, u) :: renKeys ρ l).lookup k = some nd := h
    by_cases e : k = ρ q
    · subst e
      rw [lookup_cons_eq] at h'
      injection h' with h'
      subst h'
      exact ⟨q, rfl, lookup_cons_eq⟩
    · rw [lookup_cons_ne e] at h'
      obtain ⟨k0, h1, h2⟩ := lookup_renKeys l k nd h'
      refine ⟨k0, h1, ?_⟩
      rw [lookup_cons_ne]
      · exact h2
      · intro hq; subst hq; exact e h1.symm
theorem lookup_renKeys' {ρ : Nat → Nat} : ∀ (l : List (Nat × Node)) (k : Nat) (nd : Node), (∀ q, q ∈ keys l → ρ q = ρ k → q = k) → l.lookup k = some nd → (renKeys ρ l).lookup (ρ k) = some nd
  | [], k, nd, _, h => by simp at h
  | (q, u) :: l, k, nd, hi, h => by
    show ((ρ q, u) :: renKeys ρ l).lookup (ρ k) = some nd
    by_cases e : k = q
    · subst e
      rw [lookup_cons_eq] at h ⊢
      exact h
    · rw [lookup_cons_ne e] at h
      rw [lookup_cons_ne fun h' => e (hi q (by simp [keys]) h'.symm).symm]
      exact lookup_renKeys' l k nd (fun q' hq' => hi q' (by simp only [keys, List.map_cons, List.mem_cons]; exact .inr hq')) h

theorem NRep.row_at {β β' : Places} {Z : Froz} {w : World} {k k' : Nat} {nd : Node} (h : NRep β Z w k nd) (hr : nd.isRow = true) (hk : β' k' = β k) : NRep β' Z w k' nd := by
  cases nd with
  | row sz es =>
    rcases h with ⟨h1, h2⟩ | ⟨b, o, h1, h2⟩
    · exact .inl ⟨h1, hk.trans h2⟩
    · exact .inr ⟨b, o, hk.trans h1, h2⟩
  | _ => cases hr

theorem LCall.ren {P : Program} {f : FuncId} {args : List AV} {pre post : List (Nat × Node)} {r : AV} (h : LCall P f args pre r post) (ρ σ : Nat → Nat) (hσ : ∀ k, k ∈ keys pre → σ (ρ k) = k) (hn : namess (keys pre) args = true) (hok : okRen pre post r) :
    LCall P f (rens ρ args) (renKeys ρ pre) r (renKeys ρ post) := by
  obtain ⟨ok1, ok2, ok3, ok4, ok5⟩ := hok
  have hinj : ∀ k k', k ∈ keys pre → k' ∈ keys pre → ρ k = ρ k' → k = k' := fun k k' h1 h2 e => by rw [← hσ k h1, ← hσ k' h2, e]
  intro β Z w vals hob hv
  let β0 : Places := fun k => if k ∈ keys pre then β (ρ k) else none
  have hβ0 : ∀ k, k ∈ keys pre → β0 k = β (ρ k) := fun k hk => if_pos hk
  have h0 : ∀ k p, β0 k = some p → k ∈ keys pre ∧ β (ρ k) = some p := fun k p hk => by
    by_cases e : k ∈ keys pre
    · exact ⟨e, by rwa [hβ0 k e] at hk⟩
    · simp [β0, e] at hk
  have hup : ∀ k nd, pre.lookup k = some nd → (stOf (renKeys ρ pre)).ob (ρ k) = some nd := fun k nd hk => by
    rw [stOf_ob]
    exact lookup_renKeys' pre k nd (fun q hq e => hinj q k hq (mem_keys_of_lookup hk) e) hk
  have hob0 : Objs β0 Z (stOf pre) w := by
    refine ⟨fun k nd hk => ?_, fun k k' nd nd' b o o' g1 g2 g3 g4 => ?_, hob.froz, fun k b o hk => hob.dom _ _ _ (h0 k _ hk).2, fun k p hk => (h0 k p hk).1⟩
    · rw [stOf_ob] at hk
      exact (hob.node (ρ k) nd (hup k nd hk)).row_at (ok1 _ (mem_of_lookup hk)) (hβ0 k (mem_keys_of_lookup hk))
    · rw [stOf_ob] at g1 g2
      exact hinj k k' (h0 k _ g3).1 (h0 k' _ g4).1 (hob.inj _ _ _ _ _ _ _ (hup _ _ g1) (hup _ _ g2) (h0 k _ g3).2 (h0 k' _ g4).2)
  have hreps0 : Reps β0 Z w args vals := by
    refine ⟨by have := hv.1; rw [rens_map, List.length_map] at this; exact this, fun j c hj => ?_⟩
    have h1 := hv.2 j (c.ren ρ) (by rw [rens_map, List.getElem?_map, hj]; rfl)
    have hcn := namess_get hn hj
    have h2 := h1.ren (β' := β0) (ρ := σ) (l := (keys pre).map ρ) (fun k hk => by
      obtain ⟨k0, hk0, rfl⟩ := List.mem_map.1 hk
      rw [hσ k0 hk0, hβ0 k0 hk0]) (AV.names_ren (fun k hk => List.mem_map.2 ⟨k, hk, rfl⟩) c hcn)
    rwa [AV.ren_ren hσ c hcn] at h2
  refine (h β0 Z w vals hob0 hreps0).mono ?_
  rintro e w' ⟨v, rfl, H⟩
  refine ⟨v, rfl, fun n h100 hdis => ?_⟩
  have hb100 : ∀ k, k ∈ keys (bindR n r).2 → 100 ≤ k := fun k hk => by
    obtain ⟨p, hp, rfl⟩ := List.mem_map.1 hk
    exact ((ok5 n h100).2 p hp).2
  have hsep : ∀ k, k ∈ keys pre → k ∉ keys (bindR n r).2 := fun k hk hk' => by
    have := ok3 k hk
    have := hb100 k hk'
    omega
  have hsep' : ∀ k, k ∈ keys pre → ρ k ∉ keys (bindR n r).2 := fun k hk => hdis (ρ k) (by rw [renKeys_keys]; exact List.mem_map.2 ⟨k, hk, rfl⟩)
  obtain ⟨β', Z', hc, ho, hs, hsame⟩ := H n h100 hsep
  let β'' : Places := fun k => if k ∈ keys (bindR n r).2 then β' k else if k ∈ (keys pre).map ρ then β' (σ k) else none
  have hnew : ∀ k, k ∈ keys (bindR n r).2 → β'' k = β' k := fun k hk => if_pos hk
  have hold : ∀ k, k ∈ keys pre → β'' (ρ k) = β' k := fun k hk => by
    show (if ρ k ∈ keys (bindR n r).2 then β' (ρ k) else if ρ k ∈ (keys pre).map ρ then β' (σ (ρ k)) else none) = β' k
    rw [if_neg (hsep' k hk), if_pos (List.mem_map.2 ⟨k, hk, rfl⟩), hσ k hk]
  have hobj : ∀ j nd, (stFin (renKeys ρ pre) (bindR n r).2 (renKeys ρ post)).ob j = some nd → ∃ k0, (stFin pre (bindR n r).2 post).ob k0 = some nd ∧ β'' j = β' k0 ∧ nd.isRow = true ∧ ((k0 ∈ keys (bindR n r).2 ∧ j = k0) ∨ (k0 ∈ keys pre ∧ j = ρ k0)) := fun j nd hj => by
    rw [stFin_ob, lookup_append] at hj
    cases e : (bindR n r).2.lookup j with
    | some x =>
      rw [e] at hj
      simp only [Option.some_or, Option.some.injEq] at hj
      subst hj
      exact ⟨j, by rw [stFin_ob, lookup_append, e]; rfl, hnew j (mem_keys_of_lookup e), ((ok5 n h100).2 _ (mem_of_lookup e)).1, .inl ⟨mem_keys_of_lookup e, rfl⟩⟩
    | none =>
      rw [e] at hj
      simp only [Option.none_or] at hj
      obtain ⟨k0, rfl, hk0⟩ := lookup_renKeys post j nd hj
      have hk := ok4 k0 (mem_keys_of_lookup hk0)
      refine ⟨k0, ?_, hold k0 hk, ok2 _ (mem_of_lookup hk0), .inr ⟨hk, rfl⟩⟩
      rw [stFin_ob, lookup_append, lookup_none_of_not_mem (hsep k0 hk)]
      exact hk0
  have hβ'' : ∀ k p, β'' k = some p → (k ∈ keys (bindR n r).2 ∧ β' k = some p) ∨ ∃ k0, k0 ∈ keys pre ∧ k = ρ k0 ∧ β' k0 = some p := fun k p hk => by
    by_cases e : k ∈ keys (bindR n r).2
    · exact .inl ⟨e, by rwa [hnew k e] at hk⟩
    · by_cases e' : k ∈ (keys pre).map ρ
      · obtain ⟨k0, hk0, rfl⟩ := List.mem_map.1 e'
        exact .inr ⟨k0, hk0, rfl, by rwa [hold k0 hk0] at hk⟩
      · have : β'' k = none := by
          show (if k ∈ keys (bindR n r).2 then β' k else if k ∈ (keys pre).map ρ then β' (σ k) else none) = none
          rw [if_neg e, if_neg e']
        rw [this] at hk; cases hk
  have hown : ∀ b, Owned β0 (stOf pre) b → Owned β (stOf (renKeys ρ pre)) b := fun b ⟨k, nd, o, g1, g2⟩ => by
    rw [stOf_ob] at g1
    exact ⟨ρ k, nd, o, hup k nd g1, (h0 k _ g2).2⟩
  refine ⟨β'', Z', hc.named (l := keys (bindR n r).2) hnew (ok5 n h100).1, ⟨fun j nd hj => ?_, fun j j' nd nd' b o o' g1 g2 g3 g4 => ?_, ho.froz, fun k b o hk => ?_, fun k p hk => ?_⟩,
    ⟨hs.os, hs.tape, hs.output, hs.size, hs.keeps, fun b hb hno => hs.frame b hb fun h' => hno (hown b h'), fun b x hb hz => (hs.frz b x hb hz).imp id (hown b), fun b hb ⟨j, nd, o, g1, g2⟩ => ?_, fun k _ hk => ?_⟩, fun k hk => ?_⟩
  · obtain ⟨k0, q1, q2, q3, _⟩ := hobj j nd hj
    exact (ho.node k0 nd q1).row_at q3 q2
  · obtain ⟨k0, q1, q2, q3, q4⟩ := hobj j nd g1
    obtain ⟨k0', q1', q2', q3', q4'⟩ := hobj j' nd' g2
    rw [q2] at g3
    rw [q2'] at g4
    have := ho.inj _ _ _ _ _ _ _ q1 q1' g3 g4
    subst this
    rcases q4 with ⟨a1, a2⟩ | ⟨a1, a2⟩ <;> rcases q4' with ⟨b1, b2⟩ | ⟨b1, b2⟩
    · rw [a2, b2]
    · exact absurd a1 (hsep k0 b1)
    · exact absurd b1 (hsep k0 a1)
    · rw [a2, b2]
  · rcases hβ'' k _ hk with ⟨_, h1⟩ | ⟨k0, _, _, h1⟩
    · exact ho.dom _ _ _ h1
    · exact ho.dom _ _ _ h1
  · show k ∈ keys (bindR n r).2 ++ keys (renKeys ρ pre)
    rcases hβ'' k _ hk with ⟨h1, _⟩ | ⟨k0, h1, rfl, _⟩
    · exact List.mem_append.2 (.inl h1)
    · rw [renKeys_keys]; exact List.mem_append.2 (.inr (List.mem_map.2 ⟨k0, h1, rfl⟩))
  · obtain ⟨k0, q1, q2, q3, _⟩ := hobj j nd g1
    rw [q2] at g2
    exact hown b (hs.owned b hb ⟨k0, nd, o, q1, g2⟩)
  · have hk' : k ∈ (keys pre).map ρ := by rw [← renKeys_keys]; exact hk
    obtain ⟨k0, hk0, rfl⟩ := List.mem_map.1 hk'
    exact ⟨by rw [hold k0 hk0, hsame k0 hk0, hβ0 k0 hk0], List.mem_append.2 (.inr hk)⟩
  · rw [renKeys_keys] at hk
    obtain ⟨k0, hk0, rfl⟩ := List.mem_map.1 hk
    rw [hold k0 hk0, hsame k0 hk0, hβ0 k0 hk0]

end Go.Proofs.YtbmlhmgldipnhabGreatE
