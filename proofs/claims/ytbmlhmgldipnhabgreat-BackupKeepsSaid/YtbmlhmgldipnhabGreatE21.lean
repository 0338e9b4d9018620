/-
  The engine, part 21: the region that draws its order, its law.
-/
import Derived.Test.YtbmlhmgldipnhabGreatE20
set_option linter.unusedVariables false
set_option linter.unusedSimpArgs false
namespace Go.Proofs.YtbmlhmgldipnhabGreatE
open Go

section
variable {P : Program} {N : Nat}

theorem getD_set_eq {listed : Array Bool} {i : Nat} (hi : i < listed.size) (d : Bool) : (listed.setIfInBounds i true).getD i d = true := by
  simp [hi]

theorem drawn_go {ops : Array Oper} {its : List It} (hc : ItsAt P N ops its) {s : St} {l : List (It × Ev)} (he : RegE P its s l) (hap : apartAll 0 l = true)
    {Q : Exit → Act → World → Prop} {β : Places} {Z : Froz} {w0 : World} (hQ : ∀ a' w' β' Z', Rel N β' Z' (stS (fun _ => true) 0 l s) a' w' → SExt β Z s w0 β' Z' (stS (fun _ => true) 0 l s) w' → Q .normal a' w') :
    ∀ (fuel : Nat) (listed : Array Bool) (a : Act) (w : World), listed.size = ops.size → ((List.range ops.size).filter fun i => !listed.getD i true).length ≤ fuel →
      (∀ j it, its[j]? = some it → listed.getD j false = true → ∀ x, x ∈ it.a → listed.getD x false = true) →
      (∃ β' Z', Rel N β' Z' (stS (fun i => listed.getD i false) 0 l s) a w ∧ SExt β Z s w0 β' Z' (stS (fun i => listed.getD i false) 0 l s) w) → wpAny P .any ops Q fuel listed a w := by
  obtain ⟨hlen, hat⟩ := hc
  obtain ⟨hlen2, hrun⟩ := RegE.at_ its s l 0 he
  have hsz : its.length = ops.size := by simpa using hlen.symm
  -- where nothing may come up any more, everything has
  have alldone : ∀ listed : Array Bool, listed.size = ops.size → Region.ready .any ops listed = [] → ∀ j, j < ops.size → listed.getD j false = true := by
    intro listed hs hr j
    induction j using Nat.strongRecOn with
    | _ j ih =>
      intro hj
      have ho : ops.toList[j]? = some ops[j] := by simp [hj]
      obtain ⟨it, _, _, _, _, _, hedge, _⟩ := hat j _ ho
      cases hl : listed.getD j false with
      | true => rfl
      | false =>
        exfalso
        have : j ∈ Region.ready .any ops listed := by
          rw [mem_ready]
          have hjl : j < listed.size := by omega
          refine ⟨by simp [hjl] at hl ⊢; exact hl, ops[j], by simp [hj], fun e hem hb => ?_⟩
          have := hedge e hem hb
          simp only [List.length_nil, Nat.zero_add] at this
          exact ih e.on this (by omega)
        rw [hr] at this
        cases this
  have fin : ∀ (listed : Array Bool) (a : Act) (w : World), listed.size = ops.size → Region.ready .any ops listed = [] →
      (∃ β' Z', Rel N β' Z' (stS (fun i => listed.getD i false) 0 l s) a w ∧ SExt β Z s w0 β' Z' (stS (fun i => listed.getD i false) 0 l s) w) → Q .normal a w := by
    intro listed a w hs hr ⟨β', Z', h1, h2⟩
    have : stS (fun i => listed.getD i false) 0 l s = stS (fun _ => true) 0 l s := stS_congr l 0 s fun j hj => by
      rw [Nat.zero_add]
      exact alldone listed hs hr j (by omega)
    rw [this] at h1 h2
    exact hQ a w β' Z' h1 h2
  intro fuel
  induction fuel with
  | zero =>
    intro listed a w hs hcount hcl hst
    have hr : Region.ready .any ops listed = [] := by
      apply List.eq_nil_iff_forall_not_mem.2
      intro j hj
      obtain ⟨h1, o, ho, _⟩ := mem_ready.1 hj
      have hlt : j < ops.size := (Array.getElem?_eq_some_iff.1 ho).1
      have : j ∈ (List.range ops.size).filter fun i => !listed.getD i true := List.mem_filter.2 ⟨List.mem_range.2 hlt, by simp only [h1]; rfl⟩
      have := List.length_pos_of_mem this
      omega
    exact ⟨hr, fin listed a w hs hr hst⟩
  | succ fuel ih =>
    intro listed a w hs hcount hcl hst
    refine ⟨fun hr => fin listed a w hs hr hst, fun i hi => ?_⟩
    obtain ⟨β', Z', h1, h2⟩ := hst
    obtain ⟨hun, o, ho, hall⟩ := mem_ready.1 hi
    have hlt : i < ops.size := (Array.getElem?_eq_some_iff.1 ho).1
    have hil : i < listed.size := by omega
    have hun' : listed.getD i false = false := by simp [hil] at hun ⊢; exact hun
    obtain ⟨it, hit, c1, c2, c3, c4, c5, c6⟩ := hat i o (by simpa using ho)
    obtain ⟨ev, hev, hrunit⟩ := hrun i it hit
    simp only [Nat.zero_add] at hrunit
    -- what stands ahead of it has come up
    have hanc : ∀ x, x ∈ it.a → listed.getD x false = true := fun x hx => by
      obtain ⟨e, hem, hb, hx⟩ := c6 x hx
      have he1 := hall e hem hb
      rcases hx with rfl | hx
      · exact he1
      · simp only [List.nil_append, List.getD_eq_getElem?_getD, List.getElem?_map] at hx
        cases hq : its[e.on]? with
        | none => rw [hq] at hx; simp at hx
        | some jt => rw [hq] at hx; exact hcl e.on jt hq he1 x (by simpa using hx)
    have hanc' : ∀ j p, l[j]? = some p → listed.getD j false = true → i ∉ p.1.a := fun j p hp hj hmem => by
      have hjt : its[j]? = some p.1 := by
        have hjl : j < its.length := by have := (List.getElem?_eq_some_iff.1 hp).1; omega
        obtain ⟨ev', hev', _⟩ := hrun j its[j] (List.getElem?_eq_getElem hjl)
        rw [hp] at hev'
        injection hev' with hev'
        rw [hev', List.getElem?_eq_getElem hjl]
      have := hcl j p.1 hjt hj i hmem
      rw [hun'] at this
      cases this
    -- the operations that stand on another side of it than in the text's order
    have hother : ∀ j p, l[j]? = some p → listed.getD j false ≠ decide (j < i) → apart p (it, ev) = true ∨ apart (it, ev) p = true := fun j p hp hne => by
      rcases Nat.lt_trichotomy j i with hji | hji | hji
      · have hj : listed.getD j false = false := by simpa [hji] using hne
        have := (apartAll_spec l 0 hap j i p (it, ev) hji hp hev).2
        rcases this with h | h
        · rw [Nat.zero_add] at h
          rw [hanc j h] at hj
          cases hj
        · exact .inl h
      · subst hji
        simp [hun'] at hne
      · have hj : listed.getD j false = true := by
          have : ¬ j < i := by omega
          simpa [this] using hne
        have := (apartAll_spec l 0 hap i j (it, ev) p hji hev hp).2
        rcases this with h | h
        · rw [Nat.zero_add] at h
          exact absurd h (hanc' j p hp hj)
        · exact .inr h
    have hsp : ∀ j p, l[j]? = some p → listed.getD j false ≠ decide (j < i) → (∀ t, p.1.d = some t → t ∉ it.reads) ∧ (∀ x, x ∈ ev.F → x ∉ keys p.2.U) ∧ (∀ x, it.d = some x → p.1.d ≠ some x) ∧ ∀ x, x ∈ keys ev.U → x ∉ keys p.2.U := fun j p hp hne => by
      rcases hother j p hp hne with h | h <;> simp only [apart, Bool.and_eq_true] at h
      · exact ⟨fun t ht => noneIn_spec h.1.1.1.1.1 t (by simp [ht]), fun x hx hx' => noneIn_spec h.1.1.2 x hx' hx, fun x hx hx' => noneIn_spec h.1.1.1.2 x (by simp [hx']) (by simp [hx]), fun x hx hx' => noneIn_spec h.2 x hx' hx⟩
      · exact ⟨fun t ht => noneIn_spec h.1.1.1.1.2 t (by simp [ht]), fun x hx hx' => noneIn_spec h.1.2 x hx' hx, fun x hx hx' => noneIn_spec h.1.1.1.2 x (by simp [hx]) (by simp [hx']), fun x hx hx' => noneIn_spec h.2 x hx hx'⟩
    have hnews : ∀ j p, l[j]? = some p → listed.getD j false = true → it.m ∉ p.2.C ∧ ∀ x, x ∈ ev.C → x ∉ p.2.C := fun j p hp hj => by
      rcases Nat.lt_trichotomy j i with hji | hji | hji
      · have := (apartAll_spec l 0 hap j i p (it, ev) hji hp hev).1
        simp only [news, Bool.and_eq_true, Bool.not_eq_true', List.contains_eq_mem, decide_eq_false_iff_not] at this
        exact ⟨this.1.2, fun x hx hx' => noneIn_spec this.2 x hx' hx⟩
      · subst hji; rw [hun'] at hj; cases hj
      · have := (apartAll_spec l 0 hap i j (it, ev) p hji hev hp).1
        simp only [news, Bool.and_eq_true, Bool.not_eq_true', List.contains_eq_mem, decide_eq_false_iff_not] at this
        exact ⟨this.1.1, fun x hx hx' => noneIn_spec this.2 x hx hx'⟩
    have hms : it.m ∉ s.nm ∨ ev = skipEv := by
      cases hrunit with
      | free _ _ hm _ => exact .inl fun h => hm (by
          have : ∀ (l : List (It × Ev)) (k : Nat) (s : St) (S : Nat → Bool), it.m ∈ s.nm → it.m ∈ (stS S k l s).nm := by
            intro l
            induction l with
            | nil => intro k s S h; exact h
            | cons p l ih =>
              intro k s S h
              simp only [stS]
              refine ih _ _ _ ?_
              split
              · exact (app_nm _ _ _ _).2 (.inr h)
              · exact h
          exact this l 0 s _ h)
      | held _ _ _ _ _ hm _ => exact .inl fun h => hm (by
          have : ∀ (l : List (It × Ev)) (k : Nat) (s : St) (S : Nat → Bool), it.m ∈ s.nm → it.m ∈ (stS S k l s).nm := by
            intro l
            induction l with
            | nil => intro k s S h; exact h
            | cons p l ih =>
              intro k s S h
              simp only [stS]
              refine ih _ _ _ ?_
              split
              · exact (app_nm _ _ _ _).2 (.inr h)
              · exact h
          exact this l 0 s _ h)
      | skip _ _ _ _ h => exact .inr h
    have hCs : ∀ x, x ∈ ev.C → x ∉ s.nm := by
      have grow : ∀ (x : Nat) (l : List (It × Ev)) (k : Nat) (s : St) (S : Nat → Bool), x ∈ s.nm → x ∈ (stS S k l s).nm := by
        intro x l
        induction l with
        | nil => intro k s S h; exact h
        | cons p l ih =>
          intro k s S h
          simp only [stS]
          refine ih _ _ _ ?_
          split
          · exact (app_nm _ _ _ _).2 (.inr h)
          · exact h
      intro x hx hxs
      cases hrunit with
      | free _ _ _ hC => exact hC x hx (grow x l 0 s _ hxs)
      | held _ _ _ _ _ _ hC => exact hC x hx (grow x l 0 s _ hxs)
      | skip _ _ _ _ h => subst h; simp [skipEv] at hx
    have hC' : ∀ x, x ∈ ev.C → x ∉ (stS (fun i => listed.getD i false) 0 l s).nm := fun x hx => stS_nm l 0 s (hCs x hx) fun j p hp hj => by
      rw [Nat.zero_add] at hj
      exact (hnews j p hp hj).2 x hx
    have henv : ∀ t, t ∈ it.reads → (stS (fun i => listed.getD i false) 0 l s).env.lookup t = (stS (fun j => decide (j < i)) 0 l s).env.lookup t := fun t ht => stS_env l 0 s s rfl fun j p hp hne hd => by
      rw [Nat.zero_add] at hne
      exact (hsp j p hp hne).1 t hd ht
    have hrun' : RunIt P (stS (fun i => listed.getD i false) 0 l s) it ev := by
      by_cases hskip : it.m ∈ s.nm
      · have hsk := hms.resolve_left (fun h => h hskip)
        cases hrunit with
        | free _ _ hm _ => exact absurd hskip (hms.elim id fun _ => fun _ => hm (by
            have grow : ∀ (x : Nat) (l : List (It × Ev)) (k : Nat) (s : St) (S : Nat → Bool), x ∈ s.nm → x ∈ (stS S k l s).nm := by
              intro x l
              induction l with
              | nil => intro k s S h; exact h
              | cons p l ih =>
                intro k s S h
                simp only [stS]
                refine ih _ _ _ ?_
                split
                · exact (app_nm _ _ _ _).2 (.inr h)
                · exact h
            exact grow _ l 0 s _ hskip))
        | held _ _ _ _ _ hm _ => exact absurd hskip (hms.elim id fun _ => fun _ => hm (by
            have grow : ∀ (x : Nat) (l : List (It × Ev)) (k : Nat) (s : St) (S : Nat → Bool), x ∈ s.nm → x ∈ (stS S k l s).nm := by
              intro x l
              induction l with
              | nil => intro k s S h; exact h
              | cons p l ih =>
                intro k s S h
                simp only [stS]
                refine ih _ _ _ ?_
                split
                · exact (app_nm _ _ _ _).2 (.inr h)
                · exact h
            exact grow _ l 0 s _ hskip))
        | skip t b hg ht he' =>
          refine .skip t b hg ?_ he'
          have h5 := henv t (List.mem_append.2 (.inr (by simp [hg])))
          have h6 : St.get (stS (fun i => listed.getD i false) 0 l s) (.t t) = St.get (stS (fun j => decide (j < i)) 0 l s) (.t t) := by
            show ((stS (fun i => listed.getD i false) 0 l s).env.lookup t).getD .dead = ((stS (fun j => decide (j < i)) 0 l s).env.lookup t).getD .dead
            rw [h5]
          rw [h6]
          exact ht
      · refine hrunit.frame henv (fun k hk => stS_ob l 0 s s rfl fun j p hp hne => ?_) (stS_nm l 0 s hskip fun j p hp hj => ?_) hC'
        · rw [Nat.zero_add] at hne
          exact (hsp j p hp hne).2.1 k hk
        · rw [Nat.zero_add] at hj
          exact (hnews j p hp hj).1
    have hadd : Eqv ((stS (fun i => listed.getD i false) 0 l s).app it.d ev) (stS (fun j => (listed.setIfInBounds i true).getD j false) 0 l s) := by
      have := stS_add (S := fun i => listed.getD i false) l 0 i s (it, ev) hev (by simpa using hun') fun j q hq hij hs' => by
        rw [Nat.zero_add] at hs'
        have hnot : ¬ j < i := by omega
        have := hsp j q hq (by rw [hs']; simp [hnot])
        exact ⟨this.2.2.1, this.2.2.2⟩
      rw [show (fun j => (listed.setIfInBounds i true).getD j false) = fun j => listed.getD j false || j == 0 + i from funext fun j => by
        by_cases hji : j = i
        · subst hji
          rw [getD_set_eq hil]
          simp
        · rw [getD_set_ne false (Ne.symm hji)]
          simp [hji]]
      exact this
    unfold wpOp
    rw [ho]
    have hw := RunIt.sound h1 c4 c1 c2 c3 hrun' (K := wpAny P .any ops Q fuel (listed.setIfInBounds i true)) (Q := Q) fun a' w' β'' Z'' r' e' => by
      refine ih (listed.setIfInBounds i true) a' w' (by simpa using hs) ?_ ?_ ⟨β'', Z'', r'.eqv hadd, (h2.trans e').eqv hadd⟩
      · have := filter_lt (p := fun i => !listed.getD i true) (q := fun j => !(listed.setIfInBounds i true).getD j true) (List.range ops.size) (fun x _ hx => by
          by_cases hxi : x = i
          · subst hxi; rw [hun]; rfl
          · rwa [getD_set_ne true (Ne.symm hxi)] at hx) ⟨i, List.mem_range.2 hlt, by rw [hun]; rfl, by rw [getD_set_eq hil]; rfl⟩
        omega
      · intro j jt hj hjl x hx
        by_cases hji : j = i
        · subst hji
          rw [hit] at hj
          injection hj with hj
          subst hj
          exact getD_set_true (hanc x hx)
        · rw [getD_set_ne false (Ne.symm hji)] at hjl
          exact getD_set_true (hcl j jt hj hjl x hx)
    simp only
    split
    · rename_i hw'
      rw [if_pos hw'] at hw
      exact .inl hw
    · rename_i hw'
      rw [if_neg hw'] at hw
      exact hw

/-- Some operations of a region, in whatever order: those ahead of them are done, all others wait for them. -/
theorem drawn_mid {ops : Array Oper} {its : List It} (hc : ItsAt P N ops its) {p q : Nat} (hpq : p ≤ q) (hq : q ≤ its.length) (hcut : ∀ j it, q ≤ j → its[j]? = some it → ∀ x, x < q → x ∈ it.a) {s : St} {l : List (It × Ev)} (he : RegE P ((its.drop p).take (q - p)) s l) (hap : apartAll p l = true)
    {Q : Exit → Act → World → Prop} {β : Places} {Z : Froz} {w0 : World} (hnext : ∀ (fuel : Nat) (listed : Array Bool) (a : Act) (w : World) β' Z', listed.size = ops.size → (∀ j, j < ops.size → listed.getD j false = decide (j < q)) → ops.size - q ≤ fuel → Rel N β' Z' (stS (fun _ => true) p l s) a w → SExt β Z s w0 β' Z' (stS (fun _ => true) p l s) w → wpAny P .any ops Q fuel listed a w) :
    ∀ (fuel : Nat) (listed : Array Bool) (a : Act) (w : World), listed.size = ops.size → ((List.range q).filter fun i => !listed.getD i true).length + (ops.size - q) ≤ fuel → (∀ j, q ≤ j → listed.getD j false = false) → (∀ j, j < p → listed.getD j false = true) →
      (∀ j it, its[j]? = some it → listed.getD j false = true → ∀ x, x ∈ it.a → listed.getD x false = true) →
      (∃ β' Z', Rel N β' Z' (stS (fun i => listed.getD i false) p l s) a w ∧ SExt β Z s w0 β' Z' (stS (fun i => listed.getD i false) p l s) w) → wpAny P .any ops Q fuel listed a w := by
  obtain ⟨hlen, hat⟩ := hc
  obtain ⟨hlen2, hrun⟩ := RegE.at_ ((its.drop p).take (q - p)) s l p he
  have hsz : its.length = ops.size := by simpa using hlen.symm
  have hlq : l.length = q - p := by rw [hlen2, List.length_take, List.length_drop]; omega
  have hseg : ∀ j, j < q - p → ((its.drop p).take (q - p))[j]? = its[p + j]? := fun j hj => by rw [List.getElem?_take_of_lt hj, List.getElem?_drop]
  -- where nothing may come up any more, everything has
  have alldone : ∀ listed : Array Bool, listed.size = ops.size → Region.ready .any ops listed = [] → ∀ j, j < ops.size → listed.getD j false = true := by
    intro listed hs hr j
    induction j using Nat.strongRecOn with
    | _ j ih =>
      intro hj
      have ho : ops.toList[j]? = some ops[j] := by simp [hj]
      obtain ⟨it, _, _, _, _, _, hedge, _⟩ := hat j _ ho
      cases hl : listed.getD j false with
      | true => rfl
      | false =>
        exfalso
        have : j ∈ Region.ready .any ops listed := by
          rw [mem_ready]
          have hjl : j < listed.size := by omega
          refine ⟨by simp [hjl] at hl ⊢; exact hl, ops[j], by simp [hj], fun e hem hb => ?_⟩
          have := hedge e hem hb
          simp only [List.length_nil, Nat.zero_add] at this
          exact ih e.on this (by omega)
        rw [hr] at this
        cases this
  have fin : ∀ (fuel : Nat) (listed : Array Bool) (a : Act) (w : World), listed.size = ops.size → ops.size - q ≤ fuel → (∀ j, q ≤ j → listed.getD j false = false) → (∀ j, j < q → listed.getD j false = true) →
      (∃ β' Z', Rel N β' Z' (stS (fun i => listed.getD i false) p l s) a w ∧ SExt β Z s w0 β' Z' (stS (fun i => listed.getD i false) p l s) w) → wpAny P .any ops Q fuel listed a w := by
    intro fuel listed a w hs hf hrest hall ⟨β', Z', h1, h2⟩
    have : stS (fun i => listed.getD i false) p l s = stS (fun _ => true) p l s := stS_congr l p s fun j hj => hall (p + j) (by omega)
    rw [this] at h1 h2
    refine hnext fuel listed a w β' Z' hs (fun j hj => ?_) hf h1 h2
    by_cases hjq : j < q
    · rw [hall j hjq]; simp [hjq]
    · rw [hrest j (by omega)]; simp [hjq]
  intro fuel
  induction fuel with
  | zero =>
    intro listed a w hs hcount hrest hdown hcl hst
    refine fin 0 listed a w hs (by omega) hrest (fun j hj => ?_) hst
    cases hl : listed.getD j false with
    | true => rfl
    | false =>
      exfalso
      have hjl : j < listed.size := by omega
      have hl' : listed.getD j true = false := by simp [hjl] at hl ⊢; exact hl
      have : j ∈ (List.range q).filter fun i => !listed.getD i true := List.mem_filter.2 ⟨List.mem_range.2 hj, by simp only [hl']; rfl⟩
      have := List.length_pos_of_mem this
      omega
  | succ fuel ih =>
    intro listed a w hs hcount hrest hdown hcl hst
    by_cases hdone : ∀ j, j < q → listed.getD j false = true
    · exact fin (fuel + 1) listed a w hs (by omega) hrest hdone hst
    obtain ⟨j0, hj0, hu0⟩ : ∃ j0, j0 < q ∧ listed.getD j0 false = false := by
      refine Classical.byContradiction fun hne => hdone fun j hj => ?_
      cases hl : listed.getD j false with
      | true => rfl
      | false => exact absurd ⟨j, hj, hl⟩ hne
    refine ⟨fun hr => absurd (alldone listed hs hr j0 (by omega)) (by rw [hu0]; simp), fun i hi => ?_⟩
    obtain ⟨β', Z', h1, h2⟩ := hst
    obtain ⟨hun, o, ho, hall⟩ := mem_ready.1 hi
    have hlt : i < ops.size := (Array.getElem?_eq_some_iff.1 ho).1
    have hil : i < listed.size := by omega
    have hun' : listed.getD i false = false := by simp [hil] at hun ⊢; exact hun
    obtain ⟨it, hit, c1, c2, c3, c4, c5, c6⟩ := hat i o (by simpa using ho)
    -- what stands ahead of it has come up
    have hanc : ∀ x, x ∈ it.a → listed.getD x false = true := fun x hx => by
      obtain ⟨e, hem, hb, hx⟩ := c6 x hx
      have he1 := hall e hem hb
      rcases hx with rfl | hx
      · exact he1
      · simp only [List.nil_append, List.getD_eq_getElem?_getD, List.getElem?_map] at hx
        cases hq : its[e.on]? with
        | none => rw [hq] at hx; simp at hx
        | some jt => rw [hq] at hx; exact hcl e.on jt hq he1 x (by simpa using hx)
    have hiq : i < q := by
      rcases Nat.lt_or_ge i q with h | h
      · exact h
      · have := hanc j0 (hcut i it h hit j0 hj0)
        rw [hu0] at this
        cases this
    have hip : p ≤ i := by
      rcases Nat.lt_or_ge i p with h | h
      · have := hdown i h
        rw [hun'] at this
        cases this
      · exact h
    obtain ⟨i', rfl⟩ : ∃ i', i = p + i' := ⟨i - p, by omega⟩
    obtain ⟨ev, hev, hrunit⟩ := hrun i' it (by rw [hseg i' (by omega)]; exact hit)
    have hanc' : ∀ j pr, l[j]? = some pr → listed.getD (p + j) false = true → p + i' ∉ pr.1.a := fun j pr hp hj hmem => by
      have hjt : its[p + j]? = some pr.1 := by
        have hjq : j < q - p := by have := (List.getElem?_eq_some_iff.1 hp).1; omega
        have hjl : p + j < its.length := by omega
        obtain ⟨ev', hev', _⟩ := hrun j its[p + j] (by rw [hseg j hjq]; exact List.getElem?_eq_getElem hjl)
        rw [hp] at hev'
        injection hev' with hev'
        rw [hev', List.getElem?_eq_getElem hjl]
      have := hcl (p + j) pr.1 hjt hj (p + i') hmem
      rw [hun'] at this
      cases this
    -- the operations that stand on another side of it than in the text's order
    have hother : ∀ j pr, l[j]? = some pr → listed.getD (p + j) false ≠ decide (p + j < p + i') → apart pr (it, ev) = true ∨ apart (it, ev) pr = true := fun j pr hp hne => by
      rcases Nat.lt_trichotomy j i' with hji | hji | hji
      · have hj : listed.getD (p + j) false = false := by simpa [hji] using hne
        have := (apartAll_spec l p hap j i' pr (it, ev) hji hp hev).2
        rcases this with h | h
        · rw [hanc _ h] at hj
          cases hj
        · exact .inl h
      · subst hji
        simp [hun'] at hne
      · have hj : listed.getD (p + j) false = true := by
          have : ¬ p + j < p + i' := by omega
          simpa [this] using hne
        have := (apartAll_spec l p hap i' j (it, ev) pr hji hev hp).2
        rcases this with h | h
        · exact absurd h (hanc' j pr hp hj)
        · exact .inr h
    have hsp : ∀ j pr, l[j]? = some pr → listed.getD (p + j) false ≠ decide (p + j < p + i') → (∀ t, pr.1.d = some t → t ∉ it.reads) ∧ (∀ x, x ∈ ev.F → x ∉ keys pr.2.U) ∧ (∀ x, it.d = some x → pr.1.d ≠ some x) ∧ ∀ x, x ∈ keys ev.U → x ∉ keys pr.2.U := fun j pr hp hne => by
      rcases hother j pr hp hne with h | h <;> simp only [apart, Bool.and_eq_true] at h
      · exact ⟨fun t ht => noneIn_spec h.1.1.1.1.1 t (by simp [ht]), fun x hx hx' => noneIn_spec h.1.1.2 x hx' hx, fun x hx hx' => noneIn_spec h.1.1.1.2 x (by simp [hx']) (by simp [hx]), fun x hx hx' => noneIn_spec h.2 x hx' hx⟩
      · exact ⟨fun t ht => noneIn_spec h.1.1.1.1.2 t (by simp [ht]), fun x hx hx' => noneIn_spec h.1.2 x hx' hx, fun x hx hx' => noneIn_spec h.1.1.1.2 x (by simp [hx]) (by simp [hx']), fun x hx hx' => noneIn_spec h.2 x hx hx'⟩
    have hnews : ∀ j pr, l[j]? = some pr → listed.getD (p + j) false = true → it.m ∉ pr.2.C ∧ ∀ x, x ∈ ev.C → x ∉ pr.2.C := fun j pr hp hj => by
      rcases Nat.lt_trichotomy j i' with hji | hji | hji
      · have := (apartAll_spec l p hap j i' pr (it, ev) hji hp hev).1
        simp only [news, Bool.and_eq_true, Bool.not_eq_true', List.contains_eq_mem, decide_eq_false_iff_not] at this
        exact ⟨this.1.2, fun x hx hx' => noneIn_spec this.2 x hx' hx⟩
      · subst hji; rw [hun'] at hj; cases hj
      · have := (apartAll_spec l p hap i' j (it, ev) pr hji hev hp).1
        simp only [news, Bool.and_eq_true, Bool.not_eq_true', List.contains_eq_mem, decide_eq_false_iff_not] at this
        exact ⟨this.1.1, fun x hx hx' => noneIn_spec this.2 x hx hx'⟩
    have hms : it.m ∉ s.nm ∨ ev = skipEv := by
      cases hrunit with
      | free _ _ hm _ => exact .inl fun h => hm (by
          have : ∀ (l : List (It × Ev)) (k : Nat) (s : St) (S : Nat → Bool), it.m ∈ s.nm → it.m ∈ (stS S k l s).nm := by
            intro l
            induction l with
            | nil => intro k s S h; exact h
            | cons p l ih =>
              intro k s S h
              simp only [stS]
              refine ih _ _ _ ?_
              split
              · exact (app_nm _ _ _ _).2 (.inr h)
              · exact h
          exact this l p s _ h)
      | held _ _ _ _ _ hm _ => exact .inl fun h => hm (by
          have : ∀ (l : List (It × Ev)) (k : Nat) (s : St) (S : Nat → Bool), it.m ∈ s.nm → it.m ∈ (stS S k l s).nm := by
            intro l
            induction l with
            | nil => intro k s S h; exact h
            | cons p l ih =>
              intro k s S h
              simp only [stS]
              refine ih _ _ _ ?_
              split
              · exact (app_nm _ _ _ _).2 (.inr h)
              · exact h
          exact this l p s _ h)
      | skip _ _ _ _ h => exact .inr h
    have hCs : ∀ x, x ∈ ev.C → x ∉ s.nm := by
      have grow : ∀ (x : Nat) (l : List (It × Ev)) (k : Nat) (s : St) (S : Nat → Bool), x ∈ s.nm → x ∈ (stS S k l s).nm := by
        intro x l
        induction l with
        | nil => intro k s S h; exact h
        | cons p l ih =>
          intro k s S h
          simp only [stS]
          refine ih _ _ _ ?_
          split
          · exact (app_nm _ _ _ _).2 (.inr h)
          · exact h
      intro x hx hxs
      cases hrunit with
      | free _ _ _ hC => exact hC x hx (grow x l p s _ hxs)
      | held _ _ _ _ _ _ hC => exact hC x hx (grow x l p s _ hxs)
      | skip _ _ _ _ h => subst h; simp [skipEv] at hx
    have hC' : ∀ x, x ∈ ev.C → x ∉ (stS (fun i => listed.getD i false) p l s).nm := fun x hx => stS_nm l p s (hCs x hx) fun j pr hp hj => (hnews j pr hp hj).2 x hx
    have henv : ∀ t, t ∈ it.reads → (stS (fun i => listed.getD i false) p l s).env.lookup t = (stS (fun j => decide (j < p + i')) p l s).env.lookup t := fun t ht => stS_env l p s s rfl fun j pr hp hne hd => (hsp j pr hp hne).1 t hd ht
    have hrun' : RunIt P (stS (fun i => listed.getD i false) p l s) it ev := by
      by_cases hskip : it.m ∈ s.nm
      · have hsk := hms.resolve_left (fun h => h hskip)
        cases hrunit with
        | free _ _ hm _ => exact absurd hskip (hms.elim id fun _ => fun _ => hm (by
            have grow : ∀ (x : Nat) (l : List (It × Ev)) (k : Nat) (s : St) (S : Nat → Bool), x ∈ s.nm → x ∈ (stS S k l s).nm := by
              intro x l
              induction l with
              | nil => intro k s S h; exact h
              | cons p l ih =>
                intro k s S h
                simp only [stS]
                refine ih _ _ _ ?_
                split
                · exact (app_nm _ _ _ _).2 (.inr h)
                · exact h
            exact grow _ l p s _ hskip))
        | held _ _ _ _ _ hm _ => exact absurd hskip (hms.elim id fun _ => fun _ => hm (by
            have grow : ∀ (x : Nat) (l : List (It × Ev)) (k : Nat) (s : St) (S : Nat → Bool), x ∈ s.nm → x ∈ (stS S k l s).nm := by
              intro x l
              induction l with
              | nil => intro k s S h; exact h
              | cons p l ih =>
                intro k s S h
                simp only [stS]
                refine ih _ _ _ ?_
                split
                · exact (app_nm _ _ _ _).2 (.inr h)
                · exact h
            exact grow _ l p s _ hskip))
        | skip t b hg ht he' =>
          refine .skip t b hg ?_ he'
          have h5 := henv t (List.mem_append.2 (.inr (by simp [hg])))
          have h6 : St.get (stS (fun i => listed.getD i false) p l s) (.t t) = St.get (stS (fun j => decide (j < p + i')) p l s) (.t t) := by
            show ((stS (fun i => listed.getD i false) p l s).env.lookup t).getD .dead = ((stS (fun j => decide (j < p + i')) p l s).env.lookup t).getD .dead
            rw [h5]
          rw [h6]
          exact ht
      · refine hrunit.frame henv (fun k hk => stS_ob l p s s rfl fun j pr hp hne => ?_) (stS_nm l p s hskip fun j pr hp hj => ?_) hC'
        · exact (hsp j pr hp hne).2.1 k hk
        · exact (hnews j pr hp hj).1
    have hadd : Eqv ((stS (fun i => listed.getD i false) p l s).app it.d ev) (stS (fun j => (listed.setIfInBounds (p + i') true).getD j false) p l s) := by
      have := stS_add (S := fun i => listed.getD i false) l p i' s (it, ev) hev hun' fun j q hq hij hs' => by
        have hnot : ¬ p + j < p + i' := by omega
        have := hsp j q hq (by rw [hs']; simp [hnot])
        exact ⟨this.2.2.1, this.2.2.2⟩
      rw [show (fun j => (listed.setIfInBounds (p + i') true).getD j false) = fun j => listed.getD j false || j == p + i' from funext fun j => by
        by_cases hji : j = p + i'
        · subst hji
          rw [getD_set_eq hil]
          simp
        · rw [getD_set_ne false (Ne.symm hji)]
          simp [hji]]
      exact this
    unfold wpOp
    rw [ho]
    have hw := RunIt.sound h1 c4 c1 c2 c3 hrun' (K := wpAny P .any ops Q fuel (listed.setIfInBounds (p + i') true)) (Q := Q) fun a' w' β'' Z'' r' e' => by
      refine ih (listed.setIfInBounds (p + i') true) a' w' (by simpa using hs) ?_ (fun j hj => by rw [getD_set_ne false (show p + i' ≠ j by omega)]; exact hrest j hj) (fun j hj => by rw [getD_set_ne false (show p + i' ≠ j by omega)]; exact hdown j hj) ?_ ⟨β'', Z'', r'.eqv hadd, (h2.trans e').eqv hadd⟩
      · have := filter_lt (p := fun i => !listed.getD i true) (q := fun j => !(listed.setIfInBounds (p + i') true).getD j true) (List.range q) (fun x _ hx => by
          by_cases hxi : x = p + i'
          · subst hxi; rw [hun]; rfl
          · rwa [getD_set_ne true (Ne.symm hxi)] at hx) ⟨p + i', List.mem_range.2 hiq, by rw [hun]; rfl, by rw [getD_set_eq hil]; rfl⟩
        omega
      · intro j jt hj hjl x hx
        by_cases hji : j = p + i'
        · subst hji
          rw [hit] at hj
          injection hj with hj
          subst hj
          exact getD_set_true (hanc x hx)
        · rw [getD_set_ne false (Ne.symm hji)] at hjl
          exact getD_set_true (hcl j jt hj hjl x hx)
    simp only
    split
    · rename_i hw'
      rw [if_pos hw'] at hw
      exact .inl hw
    · rename_i hw'
      rw [if_neg hw'] at hw
      exact hw


/-- What an operation waits for stands ahead of it. -/
theorem its_lt {ops : Array Oper} {its : List It} (hc : ItsAt P N ops its) : ∀ (j : Nat) (it : It), its[j]? = some it → ∀ x, x ∈ it.a → x < j := by
  obtain ⟨hlen, hat⟩ := hc
  intro j
  induction j using Nat.strongRecOn with
  | _ j ih =>
    intro it hit x hx
    have hj : j < ops.toList.length := by rw [hlen]; exact (List.getElem?_eq_some_iff.1 hit).1
    obtain ⟨it', h1, _, _, _, _, h2, h3⟩ := hat j _ (List.getElem?_eq_getElem hj)
    rw [hit] at h1
    injection h1 with h1
    subst h1
    obtain ⟨e, he, hb, hx⟩ := h3 x hx
    have h4 := h2 e he hb
    simp only [List.length_nil, Nat.zero_add] at h4
    rcases hx with rfl | hx
    · exact h4
    · simp only [List.nil_append, List.getD_eq_getElem?_getD, List.getElem?_map] at hx
      cases hq : its[e.on]? with
      | none => rw [hq] at hx; simp at hx
      | some jt =>
        rw [hq] at hx
        have := ih e.on h4 jt hq x (by simpa using hx)
        omega

/-- The last operations of a region, each of which waits for all ahead of it. -/
theorem seq_go {ops : Array Oper} {its : List It} (hc : ItsAt P N ops its) {q : Nat} (htot : ∀ j it, q ≤ j → its[j]? = some it → ∀ x, x < j → x ∈ it.a) {Q : Exit → Act → World → Prop} :
    ∀ (n m fuel : Nat) (listed : Array Bool) (a : Act) (w : World), m + n = ops.size → q ≤ m → n ≤ fuel → listed.size = ops.size → (∀ j, j < ops.size → listed.getD j false = decide (j < m)) → wpList P ops Q (ops.toList.drop m) a w → wpAny P .any ops Q fuel listed a w := by
  have hlt' := its_lt hc
  obtain ⟨hlen, hat⟩ := hc
  intro n
  induction n with
  | zero =>
    intro m fuel listed a w hm _ _ hs hl h
    have hd : ops.toList.drop m = [] := List.drop_eq_nil_of_le (by simp; omega)
    rw [hd] at h
    have hr : Region.ready .any ops listed = [] := by
      apply List.eq_nil_iff_forall_not_mem.2
      intro j hj
      obtain ⟨h1, o, ho, _⟩ := mem_ready.1 hj
      have hlt : j < ops.size := (Array.getElem?_eq_some_iff.1 ho).1
      have h2 := hl j hlt
      have hjl : j < listed.size := by omega
      simp [hjl] at h1 h2
      rw [h1] at h2
      simp at h2
      omega
    cases fuel with
    | zero => exact ⟨hr, h⟩
    | succ f => exact ⟨fun _ => h, fun i hi => absurd (show i ∈ ([] : List Nat) from hr ▸ hi) (by simp)⟩
  | succ n ih =>
    intro m fuel listed a w hm hq hf hs hl h
    have hmlt : m < ops.size := by omega
    have hml : m < listed.size := by omega
    obtain ⟨f, rfl⟩ : ∃ f, fuel = f + 1 := ⟨fuel - 1, by omega⟩
    have hd : ops.toList.drop m = ops[m] :: ops.toList.drop (m + 1) := by rw [List.drop_eq_getElem_cons (by simpa using hmlt)]; simp
    have hmr : m ∈ Region.ready .any ops listed := by
      rw [mem_ready]
      have h0 := hl m hmlt
      refine ⟨by simp [hml] at h0 ⊢; exact h0, ops[m], by simp [hmlt], fun e hem hb => ?_⟩
      obtain ⟨it, _, _, _, _, _, hedge, _⟩ := hat m ops[m] (by simp [hmlt])
      have := hedge e hem hb
      simp only [List.length_nil, Nat.zero_add] at this
      rw [hl e.on (by omega)]
      simpa using this
    refine ⟨fun hr => absurd (show m ∈ ([] : List Nat) from hr ▸ hmr) (by simp), fun i hi => ?_⟩
    obtain ⟨hun, o, ho, hall⟩ := mem_ready.1 hi
    have hlt : i < ops.size := (Array.getElem?_eq_some_iff.1 ho).1
    have hil : i < listed.size := by omega
    have him : i = m := by
      have h0 := hl i hlt
      have hun' : listed.getD i false = false := by simp [hil] at hun ⊢; exact hun
      rw [hun'] at h0
      have hge : m ≤ i := by simpa using h0.symm
      rcases Nat.lt_or_ge m i with hgt | hle
      · exfalso
        obtain ⟨it, hit, _, _, _, _, _, c6⟩ := hat i o (by simpa using ho)
        obtain ⟨e, hem, hb, hx⟩ := c6 m (htot i it (by omega) hit m hgt)
        have he1 := hall e hem hb
        have hes : e.on < ops.size := by
          rcases Nat.lt_or_ge e.on listed.size with h5 | h5
          · omega
          · simp [h5] at he1
        rw [hl e.on hes] at he1
        have he1 : e.on < m := by simpa using he1
        rcases hx with hx | hx
        · omega
        · simp only [List.nil_append, List.getD_eq_getElem?_getD, List.getElem?_map] at hx
          cases hqq : its[e.on]? with
          | none => rw [hqq] at hx; simp at hx
          | some jt =>
            rw [hqq] at hx
            have := hlt' e.on jt hqq m (by simpa using hx)
            omega
      · omega
    subst him
    rw [hd] at h
    have ho' : o = ops[i] := by
      have := (Array.getElem?_eq_some_iff.1 ho).2
      exact this.symm
    subst ho'
    have h' : wpOp P ops Q i (wpList P ops Q (ops.toList.drop (i + 1))) a w := by
      unfold wpOp
      rw [ho]
      exact h
    refine wpOp_mono (fun a' w' hk => ih (i + 1) f _ a' w' (by omega) (by omega) (by omega) (by simpa using hs) (fun j hj => ?_) hk) h'
    by_cases hji : j = i
    · subst hji; rw [getD_set_eq hil]; simp
    · rw [getD_set_ne false (Ne.symm hji), hl j hj]
      by_cases h6 : j < i
      · simp [h6, show j < i + 1 by omega]
      · simp [h6, show ¬ j < i + 1 by omega]

/-- One operation, for which all others that are left wait. -/
theorem one_go {ops : Array Oper} {its : List It} (hc : ItsAt P N ops its) {p : Nat} {o : Oper} (ho : ops[p]? = some o) (hcut : ∀ j it, p + 1 ≤ j → its[j]? = some it → ∀ x, x < p + 1 → x ∈ it.a) {Q : Exit → Act → World → Prop} {fuel : Nat} {listed : Array Bool} {a : Act} {w : World} (hf : ops.size - p ≤ fuel) (hs : listed.size = ops.size) (hl : ∀ j, j < ops.size → listed.getD j false = decide (j < p))
    (hop : ∀ K : Act → World → Prop, (∀ (f : Nat) (a w), (∀ listed : Array Bool, listed.size = ops.size → (∀ j, j < ops.size → listed.getD j false = decide (j < p + 1)) → ops.size - (p + 1) ≤ f → wpAny P .any ops Q f listed a w) → f + 1 = fuel → K a w) → if Region.wanted o (yielded ops a.tmps) then o.wp P a w K Q else K (a.put o.dst undef) w) : wpAny P .any ops Q fuel listed a w := by
  have hlt' := its_lt hc
  obtain ⟨hlen, hat⟩ := hc
  have hmlt : p < ops.size := (Array.getElem?_eq_some_iff.1 ho).1
  have hml : p < listed.size := by omega
  obtain ⟨f, rfl⟩ : ∃ f, fuel = f + 1 := ⟨fuel - 1, by omega⟩
  have hmr : p ∈ Region.ready .any ops listed := by
    rw [mem_ready]
    have h0 := hl p hmlt
    refine ⟨by simp [hml] at h0 ⊢; exact h0, o, ho, fun e hem hb => ?_⟩
    obtain ⟨it, _, _, _, _, _, hedge, _⟩ := hat p o (by simpa using ho)
    have := hedge e hem hb
    simp only [List.length_nil, Nat.zero_add] at this
    rw [hl e.on (by omega)]
    simpa using this
  refine ⟨fun hr => absurd (show p ∈ ([] : List Nat) from hr ▸ hmr) (by simp), fun i hi => ?_⟩
  obtain ⟨hun, oi, hoi, hall⟩ := mem_ready.1 hi
  have hlt : i < ops.size := (Array.getElem?_eq_some_iff.1 hoi).1
  have hil : i < listed.size := by omega
  have him : i = p := by
    have h0 := hl i hlt
    have hun' : listed.getD i false = false := by simp [hil] at hun ⊢; exact hun
    rw [hun'] at h0
    have hge : p ≤ i := by simpa using h0.symm
    rcases Nat.lt_or_ge p i with hgt | hle
    · exfalso
      obtain ⟨it, hit, _, _, _, _, _, c6⟩ := hat i oi (by simpa using hoi)
      obtain ⟨e, hem, hb, hx⟩ := c6 p (hcut i it (by omega) hit p (by omega))
      have he1 := hall e hem hb
      have hes : e.on < ops.size := by
        rcases Nat.lt_or_ge e.on listed.size with h5 | h5
        · omega
        · simp [h5] at he1
      rw [hl e.on hes] at he1
      have he1 : e.on < p := by simpa using he1
      rcases hx with hx | hx
      · omega
      · simp only [List.nil_append, List.getD_eq_getElem?_getD, List.getElem?_map] at hx
        cases hqq : its[e.on]? with
        | none => rw [hqq] at hx; simp at hx
        | some jt =>
          rw [hqq] at hx
          have := hlt' e.on jt hqq p (by simpa using hx)
          omega
    · omega
  subst him
  unfold wpOp
  rw [ho]
  have := hop (wpAny P .any ops Q f (listed.setIfInBounds i true)) (fun f' a' w' hk hff => by
    have : f' = f := by omega
    subst this
    refine hk _ (by simpa using hs) (fun j hj => ?_) (by omega)
    by_cases hji : j = i
    · subst hji; rw [getD_set_eq hil]; simp
    · rw [getD_set_ne false (Ne.symm hji), hl j hj]
      by_cases h6 : j < i
      · simp [h6, show j < i + 1 by omega]
      · simp [h6, show ¬ j < i + 1 by omega])
  simp only
  split
  · rename_i hw'
    rw [if_pos hw'] at this
    exact .inl this
  · rename_i hw'
    rw [if_neg hw'] at this
    exact this

/-- The operations, in the text's order, are carried out; which may change places. -/
def RegD (P : Program) (its : List It) (s : St) (K : St → Prop) : Prop := ∃ l, RegE P its s l ∧ apartAll 0 l = true ∧ K (stS (fun _ => true) 0 l s)

theorem ACode.drawn (hm : P.follows .mixedOrders = true) {id : Nat} {ops : Array Oper} {its : List It} (hc : ItsAt P N ops its) {Q : Exit → St → Prop} {s : St} (h : RegD P its s (Q .normal)) : ACode P N (.region id ops true) s Q := fun β Z a w r => by
  obtain ⟨l, he, hap, hk⟩ := h
  have al : Alike w { w with drawn := w.drawn + 1 } := ⟨rfl, rfl, rfl, rfl⟩
  obtain ⟨r', e'⟩ := r.alike al
  have h0 : stS (fun i => (Array.replicate ops.size false).getD i false) 0 l s = s := by
    have : ∀ (l : List (It × Ev)) (k : Nat), stS (fun i => (Array.replicate ops.size false).getD i false) k l s = s := by
      intro l
      induction l with
      | nil => intro k; rfl
      | cons p l ih =>
        intro k
        have : (Array.replicate ops.size false).getD k false = false := by
          rcases Nat.lt_or_ge k ops.size with h | h <;> simp [h]
        simp only [stS, this, Bool.false_eq_true, if_false]
        exact ih (k + 1)
    exact this l 0
  refine wp_region_any hm (drawn_go hc he hap (β := β) (Z := Z) (w0 := w) (fun a' w' β' Z' r'' e'' => ⟨_, β', Z', hk, r'', e''⟩) ops.size _ a _ (by simp) (Nat.le_trans (List.length_filter_le _ _) (by simp)) (fun j it hj hl => ?_) ⟨β, Z, by rw [h0]; exact r', by rw [h0]; exact e'⟩)
  exfalso
  rcases Nat.lt_or_ge j ops.size with h | h <;> simp [h] at hl

end
end Go.Proofs.YtbmlhmgldipnhabGreatE
