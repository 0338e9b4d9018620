/-
  The engine, part 3: how a state goes on: a value laid into a slot, a new object, an object turned, less known.
-/
import Derived.Test.YtbmlhmgldipnhabGreatE2
import Derived.Laws.CopyRow
set_option linter.unusedVariables false
set_option linter.unusedSimpArgs false
namespace Go.Proofs.YtbmlhmgldipnhabGreatE
open Go

theorem getD_setIfInBounds {a : Array Value} {i j : Nat} {v d : Value} (h : i < a.size) : (a.setIfInBounds i v).getD j d = if i = j then v else a.getD j d := by
  simp only [Array.getD_eq_getD_getElem?, Array.getElem?_setIfInBounds]
  by_cases e : i = j
  · subst e; simp [h]
  · simp [e]

theorem put_getD (a : Act) (d t : Nat) (v : Value) (h : d < a.tmps.size) : (a.put (some d) v).tmps.getD t undef = if d = t then v else a.tmps.getD t undef := getD_setIfInBounds h
theorem put_size (a : Act) (d : Option Nat) (v : Value) : (a.put d v).tmps.size = a.tmps.size := by cases d <;> simp [Act.put]
theorem put_defers (a : Act) (d : Option Nat) (v : Value) : (a.put d v).defers = a.defers := by cases d <;> rfl

def St.put (s : St) (d : Option Nat) (v : AV) : St :=
  match d with
  | some d => { s with env := (d, v) :: s.env }
  | none => s
theorem St.put_ob (s : St) (d : Option Nat) (v : AV) (k : Nat) : (s.put d v).ob k = s.ob k := by cases d <;> rfl
theorem St.put_nm (s : St) (d : Option Nat) (v : AV) : (s.put d v).nm = s.nm := by cases d <;> rfl
theorem St.put_obs (s : St) (d : Option Nat) (v : AV) : (s.put d v).obs = s.obs := by cases d <;> rfl

theorem lookup_cons_ne {α : Type} {k k' : Nat} {v : α} {l : List (Nat × α)} (h : k ≠ k') : ((k', v) :: l).lookup k = l.lookup k := by
  have : (k == k') = false := by simpa using h
  simp [List.lookup_cons, this]
theorem lookup_cons_eq {α : Type} {k : Nat} {v : α} {l : List (Nat × α)} : ((k, v) :: l).lookup k = some v := by
  simp [List.lookup_cons]

/-- The environment, once a value has been laid into its slot. -/
theorem env_put {N : Nat} {β : Places} {Z : Froz} {w : World} {s : St} {a : Act} {d : Option Nat} {v : AV} {u : Value} (hs : a.tmps.size = N) (he : ∀ t v, s.env.lookup t = some v → CRep β Z w v (a.tmps.getD t undef)) (hv : CRep β Z w v u) (hd : ∀ x, d = some x → x < N) :
    ∀ t v', (s.put d v).env.lookup t = some v' → CRep β Z w v' ((a.put d u).tmps.getD t undef) := by
  intro t v' h
  cases d with
  | none => exact he t v' h
  | some d =>
    rw [put_getD a d t u (by have := hd d rfl; omega)]
    by_cases e : t = d
    · subst e
      rw [St.put, lookup_cons_eq] at h
      injection h with h
      subst h
      simpa using hv
    · rw [St.put, lookup_cons_ne e] at h
      rw [if_neg (fun h' => e h'.symm)]
      exact he t v' h

theorem Objs.same {β : Places} {Z : Froz} {s s' : St} {w : World} (h : Objs β Z s w) (ho : ∀ k nd, s'.ob k = some nd → s.ob k = some nd) (hn : ∀ k, k ∈ s.nm → k ∈ s'.nm) : Objs β Z s' w :=
  ⟨fun k nd hk => h.node k nd (ho k nd hk), fun k k' nd nd' b o o' h1 h2 => h.inj k k' nd nd' b o o' (ho _ _ h1) (ho _ _ h2), h.froz, h.dom, fun k p hp => hn k (h.names k p hp)⟩

/-- A value that touches no memory. -/
theorem Rel.put {N : Nat} {β : Places} {Z : Froz} {s : St} {a : Act} {w : World} (r : Rel N β Z s a w) {d : Option Nat} {v : AV} {u : Value} (hv : CRep β Z w v u) (hd : ∀ x, d = some x → x < N) : Rel N β Z (s.put d v) (a.put d u) w where
  toObjs := r.toObjs.same (fun k nd h => by rwa [St.put_ob] at h) (fun k h => by rwa [St.put_nm])
  env := env_put r.size r.env hv hd
  size := by rw [put_size, r.size]
  defers := by rw [put_defers, r.defers]

theorem SExt.put {β : Places} {Z : Froz} {s : St} {w : World} (d : Option Nat) (v : AV) : SExt β Z s w β Z (s.put d v) w :=
  ⟨rfl, rfl, rfl, Nat.le_refl _, Keeps.refl _ _, fun _ _ _ => rfl, fun _ _ _ h => .inl h, fun b _ ⟨k, nd, o, h1, h2⟩ => ⟨k, nd, o, by rwa [St.put_ob] at h1, h2⟩, fun k _ hk => ⟨rfl, by rwa [St.put_nm]⟩⟩

/-- A world that differs in what has been drawn. -/
structure Alike (w w' : World) : Prop where
  heap : w'.heap = w.heap
  os : w'.os = w.os
  tape : w'.tape = w.tape
  output : w'.output = w.output
theorem Alike.refl (w : World) : Alike w w := ⟨rfl, rfl, rfl, rfl⟩
theorem Alike.keeps {w w' : World} (h : Alike w w') (Z : Froz) : Keeps Z w Z w' :=
  ⟨fun _ _ z => z, fun b o v _ hv => by unfold World.cellOf World.cell? at *; rwa [h.heap], fun b es c _ hm => by rwa [h.heap], fun b s hs => by unfold World.shape? at *; rwa [h.heap]⟩

theorem RowRep.imp {R R' : AV → Value → Prop} {Z : Froz} {w w' : World} {sz : Nat} {es : List (List AV)} {b o : Nat} (h : RowRep R Z w sz es b o) (hh : w'.heap[b]? = w.heap[b]?) (hr : ∀ c u, R c u → R' c u) : RowRep R' Z w' sz es b o := by
  obtain ⟨arr, t, h1, h2, h3, h4, h5⟩ := h
  exact ⟨arr, t, hh.trans h1, h2, h3, fun i j c hc => hr _ _ (h4 i j c hc), h5⟩

theorem RowRep.z {R : AV → Value → Prop} {Z Z' : Froz} {w : World} {sz : Nat} {es : List (List AV)} {b o : Nat} (h : RowRep R Z w sz es b o) (hz : ∀ x, Z' b x → Z b x) : RowRep R Z' w sz es b o := by
  obtain ⟨arr, t, h1, h2, h3, h4, h5, h6⟩ := h
  exact ⟨arr, t, h1, h2, h3, h4, fun x hx hz' => h5 x hx (hz x hz'), h6⟩

/-- An object stands on where its block is as it was and frozen memory is. -/
theorem NRep.on {β β' : Places} {Z Z' : Froz} {w w' : World} {k : Nat} {nd : Node} (h : NRep β Z w k nd) (kp : Keeps Z w Z' w') (hβ : ∀ n p, β n = some p → β' n = some p) (hk : β' k = β k)
    (hb : ∀ b o, β k = some (b, o) → w'.heap[b]? = w.heap[b]? ∧ ∀ x, Z' b x → Z b x) : NRep β' Z' w' k nd := by
  cases nd with
  | row sz es =>
    rcases h with ⟨h1, h2⟩ | ⟨b, o, h1, h2⟩
    · exact .inl ⟨h1, by rw [hk]; exact h2⟩
    · exact .inr ⟨b, o, by rw [hk]; exact h1, (h2.imp (hb b o h1).1 fun c u hc => hc.keeps kp).z (hb b o h1).2⟩
  | arow sz es =>
    obtain ⟨b, o, h1, h2⟩ := h
    exact ⟨b, o, by rw [hk]; exact h1, (h2.imp (hb b o h1).1 fun c u hc => hc.keeps kp hβ).z (hb b o h1).2⟩
  | map es =>
    obtain ⟨b, ents, clock, h1, h2, h3, h5, h4⟩ := h
    exact ⟨b, ents, clock, by rw [hk]; exact h1, (hb b 0 h1).1.trans h2, h3, fun hz => h5 ((hb b 0 h1).2 0 hz), fun i p hp => by obtain ⟨e, e1, e2, e3⟩ := h4 i p hp; exact ⟨e, e1, e2.keeps kp, e3.keeps kp⟩⟩

def St.new (s : St) (d : Option Nat) (v : AV) (m : Nat) (nd : Node) : St :=
  { env := (s.put d v).env, obs := (m, some nd) :: s.obs, nm := m :: s.nm }
theorem St.new_ob (s : St) (d : Option Nat) (v : AV) (m : Nat) (nd : Node) (k : Nat) : (s.new d v m nd).ob k = if k = m then some nd else s.ob k := by
  unfold St.ob St.new
  by_cases e : k = m
  · subst e; simp [lookup_cons_eq]
  · simp [lookup_cons_ne e, e]

def St.kill (s : St) (k : Nat) : St := { s with obs := (k, none) :: s.obs }
theorem St.kill_ob (s : St) (k j : Nat) : (s.kill k).ob j = if j = k then none else s.ob j := by
  unfold St.ob St.kill
  by_cases e : j = k
  · subst e; simp [lookup_cons_eq]
  · simp [lookup_cons_ne e, e]

def Places.set (β : Places) (m : Nat) (p : Nat × Nat) : Places := fun k => if k = m then some p else β k
theorem Places.set_new {β : Places} {m : Nat} {p : Nat × Nat} : β.set m p m = some p := by simp [Places.set]
theorem Places.set_old {β : Places} {m k : Nat} {p : Nat × Nat} (h : k ≠ m) : β.set m p k = β k := by simp [Places.set, h]
theorem Objs.unnamed {β : Places} {Z : Froz} {s : St} {w : World} (h : Objs β Z s w) {m : Nat} (hm : m ∉ s.nm) : β m = none := by
  cases e : β m with
  | none => rfl
  | some p => exact absurd (h.names m p e) hm
theorem Places.set_le {β : Places} {m : Nat} {p : Nat × Nat} (hm : β m = none) : ∀ n q, β n = some q → β.set m p n = some q := fun n q h => by
  by_cases e : n = m
  · subst e; rw [hm] at h; cases h
  · rw [Places.set_old e]; exact h

/-- A world with one block more. -/
structure Pushed (w w' : World) (o : Obj) : Prop where
  heap : w'.heap = w.heap.push o
  os : w'.os = w.os
  tape : w'.tape = w.tape
  output : w'.output = w.output
theorem Pushed.old {w w' : World} {o : Obj} (h : Pushed w w' o) {b : Nat} (hb : b < w.heap.size) : w'.heap[b]? = w.heap[b]? := by
  rw [h.heap, Array.getElem?_push]
  simp [Nat.ne_of_lt hb]
theorem Pushed.new {w w' : World} {o : Obj} (h : Pushed w w' o) : w'.heap[w.heap.size]? = some o := by
  rw [h.heap]
  simp
theorem Pushed.size {w w' : World} {o : Obj} (h : Pushed w w' o) : w'.heap.size = w.heap.size + 1 := by rw [h.heap]; simp
theorem lt_of_shape {w : World} {b : Nat} {s : TypeId × Nat} (h : w.shape? b = some s) : b < w.heap.size := by
  unfold World.shape? at h
  split at h
  · rename_i e
    exact (Array.getElem?_eq_some_iff.1 e).1
  · cases h
theorem Pushed.keeps {w w' : World} {o : Obj} (h : Pushed w w' o) {Z : Froz} (hz : ∀ b x, Z b x → b < w.heap.size) : Keeps Z w Z w' :=
  ⟨fun _ _ z => z, fun b x v z hv => by unfold World.cellOf World.cell? at *; rwa [h.old (hz b x z)], fun b es c z hm => by rwa [h.old (hz b 0 z)], fun b s hs => by
    have := lt_of_shape hs
    unfold World.shape? at *
    rwa [h.old this]⟩

/-- A new object. -/
theorem Rel.alloc {N : Nat} {β : Places} {Z : Froz} {s : St} {a : Act} {w w' : World} {ob : Obj} (r : Rel N β Z s a w) (hp : Pushed w w' ob) {m : Nat} (hm : m ∉ s.nm) {nd : Node} {p : Nat} {d : Option Nat} {v : AV} {u : Value}
    (hn : NRep (β.set m (w.heap.size, p)) Z w' m nd) (hv : CRep (β.set m (w.heap.size, p)) Z w' v u) (hd : ∀ x, d = some x → x < N) :
    Rel N (β.set m (w.heap.size, p)) Z (s.new d v m nd) (a.put d u) w' ∧ SExt β Z s w (β.set m (w.heap.size, p)) Z (s.new d v m nd) w' := by
  have kp := hp.keeps r.froz
  have h0 := r.unnamed hm
  have hle := Places.set_le (p := (w.heap.size, p)) h0
  refine ⟨⟨⟨?_, ?_, ?_, ?_, ?_⟩, ?_, ?_, ?_⟩, ⟨hp.os, hp.tape, hp.output, by rw [hp.size]; omega, kp, fun b hb _ => hp.old hb, fun _ _ _ h => .inl h, ?_, fun k _ hk => ⟨Places.set_old (fun e => hm (by rw [← e]; exact hk)), List.mem_cons_of_mem _ hk⟩⟩⟩
  · intro k nd' hk
    rw [St.new_ob] at hk
    by_cases e : k = m
    · subst e
      simp at hk
      subst hk
      exact hn
    · simp [e] at hk
      exact (r.node k nd' hk).on kp hle (Places.set_old e) fun b o hb => ⟨hp.old (r.dom _ _ _ hb), fun _ z => z⟩
  · intro k k' nd1 nd2 b o o' h1 h2 h3 h4
    rw [St.new_ob] at h1 h2
    by_cases e : k = m <;> by_cases e' : k' = m
    · rw [e, e']
    · subst e
      rw [Places.set_new] at h3
      rw [Places.set_old e'] at h4
      have := r.dom _ _ _ h4
      simp at h3
      omega
    · subst e'
      rw [Places.set_new] at h4
      rw [Places.set_old e] at h3
      have := r.dom _ _ _ h3
      simp at h4
      omega
    · simp [e, e'] at h1 h2
      rw [Places.set_old e] at h3
      rw [Places.set_old e'] at h4
      exact r.inj _ _ _ _ _ _ _ h1 h2 h3 h4
  · intro b o hz
    have := r.froz b o hz
    rw [hp.size]
    omega
  · intro k b o hk
    rw [hp.size]
    by_cases e : k = m
    · subst e
      rw [Places.set_new] at hk
      simp at hk
      omega
    · rw [Places.set_old e] at hk
      have := r.dom _ _ _ hk
      omega
  · intro k q hk
    by_cases e : k = m
    · simp [St.new, e]
    · rw [Places.set_old e] at hk
      simp [St.new, r.names k q hk]
  · intro t v' ht
    exact env_put (s := s) r.size (fun t v h => (r.env t v h).keeps kp hle) hv hd t v' ht
  · rw [put_size, r.size]
  · rw [put_defers, r.defers]
  · intro b hb ⟨k, nd', o, h1, h2⟩
    rw [St.new_ob] at h1
    by_cases e : k = m
    · subst e
      rw [Places.set_new] at h2
      simp at h2
      omega
    · simp [e] at h1
      rw [Places.set_old e] at h2
      exact ⟨k, nd', o, h1, h2⟩

/-- A world of which one row's cells have turned, from o on. -/
structure Turned (w w' : World) (b o : Nat) (arr arr' : Array Value) (t : TypeId) : Prop where
  was : w.heap[b]? = some (.cells arr t (0, 0))
  now : w'.heap[b]? = some (.cells arr' t (0, 0))
  same : arr'.size = arr.size
  low : ∀ x, x < o → arr'.getD x undef = arr.getD x undef
  other : ∀ c, c ≠ b → w'.heap[c]? = w.heap[c]?
  size : w'.heap.size = w.heap.size
  os : w'.os = w.os
  tape : w'.tape = w.tape
  output : w'.output = w.output
theorem getElem?_of_getD {a a' : Array Value} {x : Nat} (hs : a'.size = a.size) (h : a'.getD x undef = a.getD x undef) : a'[x]? = a[x]? := by
  by_cases hx : x < a.size
  · have hx' : x < a'.size := by omega
    simp only [Array.getD_eq_getD_getElem?, Array.getElem?_eq_getElem hx, Array.getElem?_eq_getElem hx', Option.getD_some] at h ⊢
    rw [h]
  · rw [Array.getElem?_eq_none (by omega), Array.getElem?_eq_none (by omega)]
theorem Turned.keeps {w w' : World} {b o : Nat} {arr arr' : Array Value} {t : TypeId} (h : Turned w w' b o arr arr' t) {Z : Froz} (hz : ∀ x, o ≤ x → ¬ Z b x) : Keeps Z w Z w' where
  froz _ _ z := z
  cell c x v z hv := by
    unfold World.cellOf World.cell? at *
    by_cases e : c = b
    · subst e
      simp only [h.was] at hv
      simp only [h.now]
      have hx : x < o := by
        rcases Nat.lt_or_ge x o with h1 | h1
        · exact h1
        · exact absurd z (hz x h1)
      rw [getElem?_of_getD h.same (h.low x hx)]
      exact hv
    · rwa [h.other c e]
  map c es k z hm := by
    by_cases e : c = b
    · subst e
      rw [h.was] at hm
      cases hm
    · rwa [h.other c e]
  shape c s hs := by
    unfold World.shape? at *
    by_cases e : c = b
    · subst e
      simp only [h.was] at hs
      simp only [h.now, h.same]
      exact hs
    · rwa [h.other c e]

/-- An object's cells turn in place; it may take another name (m: the new one). -/
theorem Rel.turn {N : Nat} {β : Places} {Z : Froz} {s : St} {a : Act} {w w' : World} {b o p : Nat} {arr arr' : Array Value} {t : TypeId} (r : Rel N β Z s a w) {k : Nat} {nd0 : Node} (hk : s.ob k = some nd0) (hb : β k = some (b, o))
    (hw : Turned w w' b o arr arr' t) (hz : ∀ x, o ≤ x → ¬ Z b x) {m : Nat} (hm : m ∉ s.nm) {nd : Node} {d : Option Nat} {v : AV} {u : Value} (hn : NRep (β.set m (b, p)) Z w' m nd) (hv : CRep (β.set m (b, p)) Z w' v u) (hd : ∀ x, d = some x → x < N) :
    Rel N (β.set m (b, p)) Z ((s.kill k).new d v m nd) (a.put d u) w' ∧ SExt β Z s w (β.set m (b, p)) Z ((s.kill k).new d v m nd) w' := by
  have kp := hw.keeps hz
  have h0 := r.unnamed hm
  have hle := Places.set_le (p := (b, p)) h0
  have hbs := r.dom _ _ _ hb
  refine ⟨⟨⟨?_, ?_, ?_, ?_, ?_⟩, ?_, ?_, ?_⟩, ⟨hw.os, hw.tape, hw.output, by rw [hw.size]; exact Nat.le_refl _, kp, ?_, fun _ _ _ h => .inl h, ?_, fun k _ hk => ⟨Places.set_old (fun e => hm (by rw [← e]; exact hk)), List.mem_cons_of_mem _ hk⟩⟩⟩
  · intro j nd' hj
    rw [St.new_ob] at hj
    by_cases e : j = m
    · subst e
      simp at hj
      subst hj
      exact hn
    · simp only [e, if_false, St.kill_ob] at hj
      by_cases e2 : j = k
      · simp [e2] at hj
      · simp [e2] at hj
        refine (r.node j nd' hj).on kp hle (Places.set_old e) fun b' o' hb' => ⟨hw.other _ ?_, fun _ z => z⟩
        intro e3
        subst e3
        exact e2 (r.inj _ _ _ _ _ _ _ hj hk hb' hb)
  · intro j j' nd1 nd2 b1 o1 o2 h1 h2 h3 h4
    rw [St.new_ob] at h1 h2
    by_cases e : j = m <;> by_cases e' : j' = m
    · rw [e, e']
    · subst e
      simp only [e', if_false, St.kill_ob] at h2
      by_cases e2 : j' = k
      · simp [e2] at h2
      · simp [e2] at h2
        rw [Places.set_new] at h3
        rw [Places.set_old e'] at h4
        simp at h3
        obtain ⟨rfl, _⟩ := h3
        exact absurd (r.inj _ _ _ _ _ _ _ h2 hk h4 hb) e2
    · subst e'
      simp only [e, if_false, St.kill_ob] at h1
      by_cases e2 : j = k
      · simp [e2] at h1
      · simp [e2] at h1
        rw [Places.set_new] at h4
        rw [Places.set_old e] at h3
        simp at h4
        obtain ⟨rfl, _⟩ := h4
        exact absurd (r.inj _ _ _ _ _ _ _ h1 hk h3 hb) e2
    · simp only [e, e', if_false, St.kill_ob] at h1 h2
      by_cases e2 : j = k
      · simp [e2] at h1
      · by_cases e3 : j' = k
        · simp [e3] at h2
        · simp [e2, e3] at h1 h2
          rw [Places.set_old e] at h3
          rw [Places.set_old e'] at h4
          exact r.inj _ _ _ _ _ _ _ h1 h2 h3 h4
  · intro c x hz'
    rw [hw.size]
    exact r.froz c x hz'
  · intro j c x hj
    rw [hw.size]
    by_cases e : j = m
    · subst e
      rw [Places.set_new] at hj
      simp at hj
      omega
    · rw [Places.set_old e] at hj
      exact r.dom _ _ _ hj
  · intro j q hj
    by_cases e : j = m
    · simp [St.new, e]
    · rw [Places.set_old e] at hj
      have := r.names j q hj
      simp [St.new, St.kill, this]
  · intro t' v' ht
    exact env_put (s := s.kill k) r.size (fun t v h => (r.env t v h).keeps kp hle) hv hd t' v' ht
  · rw [put_size, r.size]
  · rw [put_defers, r.defers]
  · intro c hc ho
    refine hw.other c ?_
    intro e
    subst e
    exact ho ⟨k, nd0, o, hk, hb⟩
  · intro c hc ⟨j, nd', o', h1, h2⟩
    rw [St.new_ob] at h1
    by_cases e : j = m
    · subst e
      rw [Places.set_new] at h2
      simp at h2
      obtain ⟨rfl, _⟩ := h2
      exact ⟨k, nd0, o, hk, hb⟩
    · simp only [e, if_false, St.kill_ob] at h1
      by_cases e2 : j = k
      · simp [e2] at h1
      · simp [e2] at h1
        rw [Places.set_old e] at h2
        exact ⟨j, nd', o', h1, h2⟩

def St.upd (s : St) (k : Nat) (nd : Node) : St := { s with obs := (k, some nd) :: s.obs }
theorem St.upd_ob (s : St) (k : Nat) (nd : Node) (j : Nat) : (s.upd k nd).ob j = if j = k then some nd else s.ob j := by
  unfold St.ob St.upd
  by_cases e : j = k
  · subst e; simp [lookup_cons_eq]
  · simp [lookup_cons_ne e, e]

/-- An object's cells turn in place. -/
theorem Rel.store {N : Nat} {β : Places} {Z : Froz} {s : St} {a : Act} {w w' : World} {b o : Nat} {arr arr' : Array Value} {t : TypeId} (r : Rel N β Z s a w) {k : Nat} {nd0 : Node} (hk : s.ob k = some nd0) (hb : β k = some (b, o))
    (hw : Turned w w' b o arr arr' t) (hz : ∀ x, o ≤ x → ¬ Z b x) {nd : Node} (hn : NRep β Z w' k nd) :
    Rel N β Z (s.upd k nd) a w' ∧ SExt β Z s w β Z (s.upd k nd) w' := by
  have kp := hw.keeps hz
  have hob : ∀ j nd', (s.upd k nd).ob j = some nd' → ∃ nd1, s.ob j = some nd1 := fun j nd' hj => by
    rw [St.upd_ob] at hj
    by_cases e : j = k
    · subst e; exact ⟨_, hk⟩
    · simp [e] at hj; exact ⟨_, hj⟩
  refine ⟨⟨⟨?_, ?_, ?_, ?_, r.names⟩, ?_, r.size, r.defers⟩, ⟨hw.os, hw.tape, hw.output, by rw [hw.size]; exact Nat.le_refl _, kp, ?_, fun _ _ _ h => .inl h, ?_, fun k _ hk => ⟨rfl, hk⟩⟩⟩
  · intro j nd' hj
    rw [St.upd_ob] at hj
    by_cases e : j = k
    · subst e
      simp at hj
      subst hj
      exact hn
    · simp [e] at hj
      refine (r.node j nd' hj).on kp (fun _ _ h => h) rfl fun b' o' hb' => ⟨hw.other _ ?_, fun _ z => z⟩
      intro e3
      subst e3
      exact e (r.inj _ _ _ _ _ _ _ hj hk hb' hb)
  · intro j j' nd1 nd2 b1 o1 o2 h1 h2 h3 h4
    obtain ⟨_, h1⟩ := hob _ _ h1
    obtain ⟨_, h2⟩ := hob _ _ h2
    exact r.inj _ _ _ _ _ _ _ h1 h2 h3 h4
  · intro c x hz'
    rw [hw.size]
    exact r.froz c x hz'
  · intro j c x hj
    rw [hw.size]
    exact r.dom _ _ _ hj
  · intro t' v' ht
    exact (r.env t' v' ht).keeps kp fun _ _ h => h
  · intro c hc ho
    refine hw.other c ?_
    intro e
    subst e
    exact ho ⟨k, nd0, o, hk, hb⟩
  · intro c hc ⟨j, nd', o', h1, h2⟩
    obtain ⟨nd1, h1⟩ := hob _ _ h1
    exact ⟨j, nd1, o', h1, h2⟩

/-- An order, a capacity has been drawn. -/
theorem Rel.alike {N : Nat} {β : Places} {Z : Froz} {s : St} {a : Act} {w w' : World} (r : Rel N β Z s a w) (h : Alike w w') : Rel N β Z s a w' ∧ SExt β Z s w β Z s w' := by
  have kp := h.keeps Z
  refine ⟨⟨⟨fun k nd hk => (r.node k nd hk).on kp (fun _ _ h => h) rfl fun b o hb => ⟨by rw [h.heap], fun _ z => z⟩, r.inj, fun b o z => by rw [h.heap]; exact r.froz b o z, fun k b o hk => by rw [h.heap]; exact r.dom k b o hk, r.names⟩,
    fun t v ht => (r.env t v ht).keeps kp fun _ _ h => h, r.size, r.defers⟩, ⟨h.os, h.tape, h.output, by rw [h.heap]; exact Nat.le_refl _, kp, fun b _ _ => by rw [h.heap], fun _ _ _ h => .inl h, fun _ _ h => h, fun _ _ h => ⟨rfl, h⟩⟩⟩

/-- An object is given up. -/
theorem Rel.kill {N : Nat} {β : Places} {Z : Froz} {s : St} {a : Act} {w : World} (r : Rel N β Z s a w) (k : Nat) : Rel N β Z (s.kill k) a w ∧ SExt β Z s w β Z (s.kill k) w := by
  have ho : ∀ j nd, (s.kill k).ob j = some nd → s.ob j = some nd := fun j nd h => by
    rw [St.kill_ob] at h
    by_cases e : j = k <;> simp [e] at h
    exact h
  exact ⟨⟨r.toObjs.same ho (fun _ h => h), r.env, r.size, r.defers⟩, ⟨rfl, rfl, rfl, Nat.le_refl _, Keeps.refl _ _, fun _ _ _ => rfl, fun _ _ _ h => .inl h, fun b _ ⟨j, nd, o, h1, h2⟩ => ⟨j, nd, o, ho _ _ h1, h2⟩, fun _ _ h => ⟨rfl, h⟩⟩⟩

end Go.Proofs.YtbmlhmgldipnhabGreatE
