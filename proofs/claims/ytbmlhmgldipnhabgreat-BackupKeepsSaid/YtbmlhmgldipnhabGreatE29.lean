/-
  The engine, part 29: what the evaluator says is so.
-/
import Derived.Test.YtbmlhmgldipnhabGreatE28
set_option linter.unusedVariables false
set_option linter.unusedSimpArgs false
namespace Go.Proofs.YtbmlhmgldipnhabGreatE
open Go

/-- A state as the evaluator sees it. -/
structure Like (s : CS) (st : St) : Prop where
  env : st.env = s.env
  ob : st.ob = s.tr.get
  nm : ∀ k, k ∈ st.nm → k < s.nx
  zero : 0 ∈ st.nm
  low : 100 ≤ s.nx

theorem Like.get {s : CS} {st : St} (h : Like s st) : st.get = s.get := by
  funext o
  cases o with
  | t n => simp only [St.get, CS.get, h.env, lk_eq]
  | k v => rfl

theorem setAll_get (t : Tr) (j : Nat) : ∀ (l : List (Nat × Option Node)), (setAll t l).get j = (l.lookup j).getD (t.get j)
  | [] => rfl
  | p :: l => by
    obtain ⟨q, x⟩ := p
    simp only [setAll, Tr.get_set _ _ _ _ _ (Nat.lt_succ_self q), setAll_get t j l, List.lookup_cons]
    by_cases e : j = q
    · simp [e]
    · have : (j == q) = false := by simpa using e
      simp [e, this]

theorem Like.appN {s : CS} {st : St} (h : Like s st) {d : Option Nat} {ev : Ev} {n : Nat} (hn : s.nx ≤ n) (hC : ∀ k, k ∈ ev.C → k < n) :
    Like ⟨match d with | some d => (d, ev.v) :: s.env | none => s.env, setAll s.tr ev.U, n⟩ (st.app d ev) where
  env := by cases d <;> simp [St.app, St.put, h.env]
  ob := by funext k; rw [app_ob, h.ob, setAll_get]
  nm k hk := by
    rw [app_nm] at hk
    rcases hk with hk | hk
    · exact hC k hk
    · have := h.nm k hk
      show k < n
      omega
  zero := by rw [app_nm]; exact .inr h.zero
  low := Nat.le_trans h.low hn

theorem Like.app {s : CS} {st : St} (h : Like s st) {d : Option Nat} {ev : Ev} (hC : ∀ k, k ∈ ev.C → k = s.nx) : Like (s.app d ev) (st.app d ev) := by
  unfold CS.app
  cases e : ev.C with
  | nil => exact h.appN (Nat.le_refl _) (fun k hk => by rw [e] at hk; simp at hk)
  | cons x l => exact h.appN (n := s.nx + 1) (Nat.le_succ _) (fun k hk => by have := hC k hk; omega)
theorem Like.appD {s : CS} {st : St} (h : Like s st) {d : Option Nat} {ev : Ev} (hC : ∀ k, k ∈ ev.C → k = s.nx) : Like (s.appD d ev) (st.app d ev) :=
  h.appN (Nat.le_succ _) fun k hk => by have := hC k hk; omega
theorem Like.keep {s : CS} {st : St} (h : Like s st) (live : List Nat) : Like (s.keep live) (st.keep live) where
  env := by simp [CS.keep, St.keep, h.env]
  ob := h.ob
  nm := h.nm
  zero := h.zero
  low := h.low

theorem Like.runs {s : CS} {st : St} (h : Like s st) (g : Option (Nat × Bool)) : runs st g = runsC s g := by
  cases g with
  | none => rfl
  | some p =>
    obtain ⟨t, b⟩ := p
    have : st.get (.t t) = lk s.env t := by rw [h.get]; rfl
    simp only [Go.Proofs.YtbmlhmgldipnhabGreatE.runs, runsC, this]
    generalize lk s.env t = v
    cases v with
    | sc u => cases u <;> rfl
    | tup l => cases l <;> rfl
    | _ => rfl

/-- A table of functions that are the program's. -/
def FTGood (P : Program) (T : FT) : Prop := ∀ f fi, T.get f = some fi → ∃ fn hh, P.funcs[f]? = some fn ∧ compF P hh fn = some fi.ci ∧ resTs P fn = some fi.ts ∧ fi.n = fn.ntmps ∧ hasBody P f = true
def BGood (P : Program) (B : Nat → List AV → Option AV) : Prop := ∀ f args r, B f args = some r → PCall P f args r

/-- What running code gives is where it leads. -/
def RunOK (P : Program) (run : CI → CS → Option (Exit × CS)) : Prop := ∀ c s e s', run c s = some (e, s') → ∀ N st, Like s st → AW P N c st fun e' st' => e' = e ∧ Like s' st'

section
variable {P : Program} {T : FT} {B : Nat → List AV → Option AV} {run : CI → CS → Option (Exit × CS)}

theorem doneC_or {e : Exit} (h : doneC e = true) : e = .ret ∨ e = .normal := by cases e <;> simp_all [doneC]

theorem cvRess_ok {ob : Nat → Option Node} {env : List (Nat × AV)} {s : St} (he : s.env = env) (ho : s.ob = ob) : ∀ (ts : List RS) (vs : List AV), cvRess ob env ts = some vs → resOk s ts ∧ ts.map (fun t => t.val s) = vs
  | [], vs, h => by simp only [cvRess, Option.some.injEq] at h; exact ⟨trivial, by simp [← h]⟩
  | t :: ts, vs, h => by
    simp only [cvRess] at h
    split at h
    · rename_i v hv
      split at h
      · rename_i us hus
        simp only [Option.some.injEq] at h
        obtain ⟨h1, h2⟩ := cvRess_ok he ho ts us hus
        have hg : ∀ t, s.get (.t t) = lk env t := fun t => by rw [lk_eq, ← he]; rfl
        cases t with
        | slot t =>
          simp only [cvRes, Option.some.injEq] at hv
          exact ⟨h1, by rw [List.map_cons, h2, ← h, ← hv]; simp only [RS.val, hg]⟩
        | cell t sz ag =>
          simp only [cvRes] at hv
          obtain ⟨ev, e1, e2⟩ := Option.map_eq_some_iff.1 hv
          refine ⟨⟨by rw [hg, ho, e1]; rfl, h1⟩, ?_⟩
          rw [List.map_cons, h2, ← h]
          simp only [RS.val, hg, ho, e1, Option.map_some, Option.getD_some, e2]
      · cases h
    · cases h
theorem resV_tup {s : St} (ts : List RS) : resV s ts = tupOf (ts.map fun t => t.val s) := by
  match ts with
  | [] => rfl
  | [t] => rfl
  | t :: t' :: ts => rfl

theorem nm_zero_wk {s s' : St} (he : s'.env = s.env) (ho : s'.obs = s.obs) (hn : ∀ k, k ∈ s.nm → k ∈ s'.nm) : Wk s s' := fun N β Z a w r =>
  ⟨β, Z, ⟨r.toObjs.same (fun k nd h => by unfold St.ob at *; rwa [ho] at h) hn, fun t v h => r.env t v (by rwa [he] at h), r.size, r.defers⟩, { SExt.refl β Z s w with owned := fun b hb ⟨k, nd, o, h1, h2⟩ => ⟨k, nd, o, by unfold St.ob at *; rwa [ho] at h1, h2⟩, low := fun k _ hk => ⟨rfl, hn k hk⟩ }⟩

/-! ### views -/
theorem flatten_get {sz : Nat} : ∀ (es : List (List AV)), (∀ e, e ∈ es → e.length = sz) → es.flatten.length = es.length * sz ∧ ∀ x, x < es.length * sz → es.flatten[x]? = cellAt es (x / sz) (x % sz)
  | [], _ => ⟨by simp, fun x hx => by simp at hx⟩
  | e :: es, h => by
    have he := h e (List.mem_cons_self ..)
    obtain ⟨h1, h2⟩ := flatten_get es fun e' h' => h e' (List.mem_cons_of_mem _ h')
    refine ⟨by rw [List.flatten_cons, List.length_append, he, h1, List.length_cons, Nat.add_mul, Nat.one_mul, Nat.add_comm], fun x hx => ?_⟩
    rw [List.length_cons, Nat.add_mul, Nat.one_mul] at hx
    rw [List.flatten_cons]
    have hp : 0 < sz := by
      rcases Nat.eq_zero_or_pos sz with h0 | h0
      · rw [h0] at hx; simp at hx
      · exact h0
    by_cases l : x < sz
    · rw [List.getElem?_append_left (by omega), Nat.div_eq_of_lt l, Nat.mod_eq_of_lt l]
      simp [cellAt]
    · rw [List.getElem?_append_right (by omega), he, h2 (x - sz) (by omega)]
      have e1 : x / sz = (x - sz) / sz + 1 := by rw [← Nat.add_div_right _ hp, Nat.sub_add_cancel (by omega)]
      have e2 : x % sz = (x - sz) % sz := Nat.mod_eq_sub_mod (by omega)
      rw [e1, e2]
      simp [cellAt]

theorem view_row {R : AV → Value → Prop} {Z : Froz} {w : World} {z z' : Nat} {es : List (List AV)} {b o : Nat} (h : RowRep R Z w z' es b o) (hz : 0 < z) (hd : (es.length * z') % z = 0) : RowRep R Z w z ((List.range (es.length * z' / z)).map fun i => (es.flatten.drop (i * z)).take z) b o := by
  obtain ⟨arr, t, h1, h2, h3, h4, h5, h6⟩ := h
  obtain ⟨f1, f2⟩ := flatten_get es fun e he => by
    obtain ⟨j, hj⟩ := List.getElem?_of_mem he
    exact h3 j e hj
  have hn : es.length * z' / z * z = es.length * z' := Nat.div_mul_cancel (Nat.dvd_of_mod_eq_zero hd)
  generalize hq : es.length * z' / z = n at *
  have hget : ∀ (i : Nat) (e : List AV), ((List.range n).map fun i => (es.flatten.drop (i * z)).take z)[i]? = some e → i < n ∧ e = (es.flatten.drop (i * z)).take z ∧ e.length = z := fun i e he => by
    have hi : i < n := by have := (List.getElem?_eq_some_iff.1 he).1; simpa using this
    simp [hi] at he
    subst he
    refine ⟨hi, rfl, ?_⟩
    have h1 : (i + 1) * z ≤ n * z := Nat.mul_le_mul_right z hi
    rw [Nat.add_mul, Nat.one_mul] at h1
    simp only [List.length_take, List.length_drop, f1]
    omega
  refine ⟨arr, t, h1, by simpa [hn] using h2, fun i e he => (hget i e he).2.2, fun i j c hc => ?_, h5, h6⟩
  obtain ⟨e, q1, q2, q3, q4⟩ := cellAt_lt hc
  obtain ⟨g1, g2, g3⟩ := hget i e q1
  subst g2
  have hj : j < z := by rw [← g3]; exact q4
  rw [List.getElem?_take_of_lt hj, List.getElem?_drop] at q2
  have hx := mul_lt_row (sz := z) g1 hj
  rw [f2 _ (by omega)] at q2
  have := h4 _ _ c q2
  rwa [Nat.mul_comm ((i * z + j) / z') z', Nat.div_add_mod] at this

theorem NRep.view {β : Places} {Z : Froz} {w : World} {k z : Nat} {nd nd' : Node} (h : NRep β Z w k nd) (hv : nd.view z = some nd') : NRep β Z w k nd' := by
  cases nd with
  | row z' es =>
    simp only [Node.view] at hv
    split at hv
    · rename_i e; subst e; injection hv with hv; subst hv; exact h
    · split at hv
      · rename_i hc
        injection hv with hv
        subst hv
        rcases h with ⟨rfl, h⟩ | ⟨b, o, h1, h2⟩
        · exact .inl ⟨by simp, h⟩
        · exact .inr ⟨b, o, h1, view_row h2 hc.1 hc.2.1⟩
      · cases hv
  | arow z' es =>
    simp only [Node.view] at hv
    split at hv
    · rename_i e; subst e; injection hv with hv; subst hv; exact h
    · split at hv
      · rename_i hc
        injection hv with hv
        subst hv
        obtain ⟨b, o, h1, h2⟩ := h
        exact ⟨b, o, h1, view_row h2 hc.1 hc.2.1⟩
      · cases hv
  | map es => cases hv

theorem Wk.view {s : St} {k z : Nat} {nd nd' : Node} (ho : s.ob k = some nd) (hv : nd.view z = some nd') : Wk s (s.upd k nd') := fun N β Z a w r => by
  have hob : ∀ j x, (s.upd k nd').ob j = some x → ∃ y, s.ob j = some y := fun j x hj => by
    rw [St.upd_ob] at hj
    by_cases e : j = k
    · subst e; exact ⟨_, ho⟩
    · simp [e] at hj; exact ⟨_, hj⟩
  refine ⟨β, Z, ⟨⟨fun j x hj => ?_, fun j j' x x' b o o' h1 h2 => ?_, r.froz, r.dom, r.names⟩, r.env, r.size, r.defers⟩, { SExt.refl β Z s w with owned := fun b hb ⟨j, x, o, h1, h2⟩ => ?_, low := fun _ _ h => ⟨rfl, h⟩ }⟩
  · rw [St.upd_ob] at hj
    by_cases e : j = k
    · subst e
      simp at hj
      subst hj
      exact (r.node j nd ho).view hv
    · simp [e] at hj
      exact r.node j x hj
  · obtain ⟨_, h1⟩ := hob _ _ h1
    obtain ⟨_, h2⟩ := hob _ _ h2
    exact r.inj _ _ _ _ _ _ _ h1 h2
  · obtain ⟨y, h1⟩ := hob _ _ h1
    exact ⟨j, y, o, h1, h2⟩

theorem Like.fixV {s : CS} {st : St} (h : Like s st) (v : AV) : ∃ st', Wk st st' ∧ Like { s with tr := Go.Proofs.YtbmlhmgldipnhabGreatE.fixV s.tr v } st' := by
  have go : ∀ k z, ∃ st', Wk st st' ∧ Like { s with tr := (match s.tr.get k with
      | some nd => match nd.view z with
        | some nd' => Tr.set (k + 1) s.tr k (some nd')
        | none => s.tr
      | none => s.tr) } st' := fun k z => by
    split
    · rename_i nd hnd
      split
      · rename_i nd' hv
        refine ⟨st.upd k nd', Wk.view (by rw [h.ob]; exact hnd) hv, h.env, ?_, h.nm, h.zero, h.low⟩
        funext j
        rw [St.upd_ob, Tr.get_set _ _ _ _ _ (Nat.lt_succ_self k), h.ob]
      · exact ⟨st, Wk.refl st, h.env, h.ob, h.nm, h.zero, h.low⟩
    · exact ⟨st, Wk.refl st, h.env, h.ob, h.nm, h.zero, h.low⟩
  cases v with
  | ptr k z i off => exact go k z
  | sl k z i len => exact go k z
  | _ => exact ⟨st, Wk.refl st, h⟩
theorem NRep.any {β : Places} {Z : Froz} {w : World} {k z : Nat} {e : List AV} {es : List (List AV)} (h : NRep β Z w k (.row z (e :: es))) : NRep β Z w k (.arow z (e :: es)) := by
  rcases h with ⟨h, _⟩ | ⟨b, o, h1, h2⟩
  · cases h
  · exact ⟨b, o, h1, h2.imp rfl fun c u hc => .fro hc⟩
theorem Wk.any {s : St} {k z : Nat} {e : List AV} {es : List (List AV)} (ho : s.ob k = some (.row z (e :: es))) : Wk s (s.upd k (.arow z (e :: es))) := fun N β Z a w r => by
  have hob : ∀ j x, (s.upd k (.arow z (e :: es))).ob j = some x → ∃ y, s.ob j = some y := fun j x hj => by
    rw [St.upd_ob] at hj
    by_cases e : j = k
    · subst e; exact ⟨_, ho⟩
    · simp [e] at hj; exact ⟨_, hj⟩
  refine ⟨β, Z, ⟨⟨fun j x hj => ?_, fun j j' x x' b o o' h1 h2 => ?_, r.froz, r.dom, r.names⟩, r.env, r.size, r.defers⟩, { SExt.refl β Z s w with owned := fun b hb ⟨j, x, o, h1, h2⟩ => ?_, low := fun _ _ h => ⟨rfl, h⟩ }⟩
  · rw [St.upd_ob] at hj
    by_cases e : j = k
    · subst e
      simp at hj
      subst hj
      exact (r.node j _ ho).any
    · simp [e] at hj
      exact r.node j x hj
  · obtain ⟨_, h1⟩ := hob _ _ h1
    obtain ⟨_, h2⟩ := hob _ _ h2
    exact r.inj _ _ _ _ _ _ _ h1 h2
  · obtain ⟨y, h1⟩ := hob _ _ h1
    exact ⟨j, y, o, h1, h2⟩
theorem Like.anyV {s : CS} {st : St} (h : Like s st) (v : AV) : ∃ st', Wk st st' ∧ Like { s with tr := Go.Proofs.YtbmlhmgldipnhabGreatE.anyV s.tr v } st' := by
  have go : ∀ k, ∃ st', Wk st st' ∧ Like { s with tr := (match s.tr.get k with
      | some (.row z' (e :: es)) => Tr.set (k + 1) s.tr k (some (.arow z' (e :: es)))
      | _ => s.tr) } st' := fun k => by
    split
    · rename_i z' e es hnd
      refine ⟨st.upd k (.arow z' (e :: es)), Wk.any (by rw [h.ob]; exact hnd), h.env, ?_, h.nm, h.zero, h.low⟩
      funext j
      rw [St.upd_ob, Tr.get_set _ _ _ _ _ (Nat.lt_succ_self k), h.ob]
    · exact ⟨st, Wk.refl st, h.env, h.ob, h.nm, h.zero, h.low⟩
  cases v with
  | ptr k z i off => exact go k
  | sl k z i len => exact go k
  | _ => exact ⟨st, Wk.refl st, h⟩
theorem Like.anyVs : ∀ (vs : List AV) {s : CS} {st : St}, Like s st → ∃ st', Wk st st' ∧ Like { s with tr := Go.Proofs.YtbmlhmgldipnhabGreatE.anyVs s.tr vs } st'
  | [], s, st, h => ⟨st, Wk.refl st, h⟩
  | v :: vs, s, st, h => by
    obtain ⟨st1, h1, h2⟩ := h.anyV v
    obtain ⟨st2, h3, h4⟩ := Like.anyVs vs h2
    exact ⟨st2, h1.trans h3, h4⟩
theorem Like.fixVs : ∀ (vs : List AV) {s : CS} {st : St}, Like s st → ∃ st', Wk st st' ∧ Like { s with tr := Go.Proofs.YtbmlhmgldipnhabGreatE.fixVs s.tr vs } st'
  | [], s, st, h => ⟨st, Wk.refl st, h⟩
  | v :: vs, s, st, h => by
    obtain ⟨st1, h1, h2⟩ := h.fixV v
    obtain ⟨st2, h3, h4⟩ := Like.fixVs vs h2
    exact ⟨st2, h1.trans h3, h4⟩

theorem Like.resFix {s : CS} {st : St} (h : Like s st) (ts : List RS) : ∃ st', Wk st st' ∧ Like (s.res ts) st' := h.fixVs _

theorem Tr.get_mapN (f : Node → Node) : ∀ (t : Tr) (k : Nat), (t.mapN f).get k = (t.get k).map f
  | .lf, k => rfl
  | .nd v l r, k => by
    simp only [Tr.mapN, Tr.get]
    cases Nat.beq k 0 with
    | true => rfl
    | false =>
      simp only [cond_false]
      cases Nat.beq (k % 2) 1 with
      | true => exact Tr.get_mapN f l _
      | false => exact Tr.get_mapN f r _

theorem Like.fzT {s : CS} {st : St} (h : Like s st) (L : List Nat) : Like (s.fzT L) (st.fz L 12) where
  env := by
    show (st.env.map fun p => (p.1, fzV st.ob L 12 p.2)) = _
    rw [h.env, h.ob]; rfl
  ob := by
    funext k
    have e1 : (st.fz L 12).ob k = if k ∈ L then none else (st.ob k).map (fzN st.ob L 12) := by
      show ((L.map (fun k => (k, (none : Option Node))) ++ st.obs.map fun p => (p.1, p.2.map (fzN st.ob L 12))).lookup k).getD none = _
      simp only [lookup_append, lookup_nones, lookup_map_node]
      by_cases hk : k ∈ L
      · simp [hk]
      · simp only [hk, if_false, Option.none_or]
        show _ = ((st.obs.lookup k).getD none).map _
        cases st.obs.lookup k <;> rfl
    rw [e1]
    show _ = (setAll (s.tr.mapN (fzN s.tr.get L 12)) (L.map fun k => (k, none))).get k
    rw [setAll_get, lookup_nones, Tr.get_mapN, ← h.ob]
    by_cases hk : k ∈ L <;> simp [hk]
  nm := h.nm
  zero := h.zero
  low := h.low

/-- A call on the caller's own objects. -/
theorem inl_calls {N : Nat} {β : Places} {Z : Froz} {s : CS} {st : St} {a : Act} {w : World} (hl : Like s st) (r : Rel N β Z st a w) {f : Nat} {fi : FI} (hg : ∃ fn hh, P.funcs[f]? = some fn ∧ compF P hh fn = some fi.ci ∧ resTs P fn = some fi.ts ∧ fi.n = fn.ntmps ∧ hasBody P f = true)
    {args : List AV} {vals : Array Value} (hv : Reps β Z w args vals) (hn : args.length ≤ fi.n) {s1 : CS} {e : Exit} (hr : ∀ N st, Like ⟨argEnv 0 args, s.tr, s.nx⟩ st → AW P N fi.ci st fun e' st' => e' = e ∧ ∃ st2, Wk st' st2 ∧ Like s1 st2) (hd : doneC e = true) {vs : List AV} (hvs : cvRess s1.tr.get s1.env fi.ts = some vs)
    {d : Option Nat} (hdN : ∀ x, d = some x → x < N) :
    Calls P f vals w fun e w' => ∃ v, e = .returned v ∧ ∃ s' β' Z', Like ⟨match d with | some d => (d, tupOf vs) :: s.env | none => s.env, s1.tr, s1.nx⟩ s' ∧ Rel N β' Z' s' (a.put d v) w' ∧ SExt β Z st w β' Z' s' w' := by
  obtain ⟨fn, hh, hf, hcf, hts, hfn, _⟩ := hg
  obtain ⟨code, hb, hc⟩ := Option.bind_eq_some_iff.1 hcf
  refine calls_of_wp hf hb ?_
  let st0 : St := { env := argEnv 0 args, obs := st.obs, nm := st.nm }
  have hl0 : Like ⟨argEnv 0 args, s.tr, s.nx⟩ st0 := ⟨rfl, hl.ob, hl.nm, hl.zero, hl.low⟩
  have hr0 : Rel fn.ntmps β Z st0 { tmps := vals ++ Array.replicate (fn.ntmps - vals.size) undef, defers := [] } w := by
    refine ⟨r.toObjs.same (fun k nd hk => hk) (fun k hk => hk), fun t v ht => ?_, by have := hv.1; simp; omega, rfl⟩
    obtain ⟨_, h1⟩ := argEnv_lookup args 0 t v ht
    have h2 := hv.2 t v (by simpa using h1)
    have hlt : t < vals.size := by have := (List.getElem?_eq_some_iff.1 h1).1; have := hv.1; omega
    have e : (vals ++ Array.replicate (fn.ntmps - vals.size) undef).getD t undef = vals.getD t undef := by
      simp only [Array.getD_eq_getD_getElem?, Array.getElem?_append, hlt, if_true]
    rw [e]
    exact h2
  have haw := hr fn.ntmps st0 hl0 hh code hc β Z _ w hr0
  refine wp_mono haw fun e' a' w' ⟨s0', β0', Z0', ⟨hq, s', hwk, hL⟩, r0', e0''⟩ => ?_
  subst hq
  obtain ⟨β', Z', r', e1''⟩ := hwk _ _ _ _ _ r0'
  have e'' := e0''.trans e1''
  obtain ⟨hok, hmap⟩ := cvRess_ok hL.env hL.ob fi.ts vs hvs
  obtain ⟨v, hv1, hv2⟩ := rep_resV (P := P) r' hts hok
  rw [resV_tup, hmap] at hv2
  have hβ : ∀ n p, β n = some p → β' n = some p := fun n p h => by
    have hin := r.names n p h
    exact (e''.low n (.inr hl.zero) hin).1.trans h
  let s2 : St := { env := match d with | some d => (d, tupOf vs) :: st.env | none => st.env, obs := s'.obs, nm := s'.nm }
  have hs2 : s2.ob = s'.ob := rfl
  have fin : a'.defers = [] ∧ ∃ v, (results fn a'.tmps).run P w' = .ok v w' ∧ ∃ s2 β' Z', Like ⟨match d with | some d => (d, tupOf vs) :: s.env | none => s.env, s1.tr, s1.nx⟩ s2 ∧ Rel N β' Z' s2 (a.put d v) w' ∧ SExt β Z st w β' Z' s2 w' := by
    refine ⟨r'.defers, v, hv1, s2, β', Z', ⟨?_, ?_, ?_, ?_, ?_⟩, ⟨r'.toObjs.same (fun k nd hk => hk) (fun k hk => hk), ?_, ?_, ?_⟩, ⟨e''.os, e''.tape, e''.output, e''.size, e''.keeps, e''.frame, e''.frz, e''.owned, e''.low⟩⟩
    · cases d with
      | none => exact hl.env
      | some d =>
        show (d, tupOf vs) :: st.env = _
        rw [hl.env]
    · exact hL.ob
    · exact hL.nm
    · exact hL.zero
    · exact hL.low
    · have := env_put (s := st) (d := d) (v := tupOf vs) (u := v) r.size (fun t x hx => (r.env t x hx).keeps e''.keeps hβ) hv2 hdN
      intro t x hx
      refine this t x ?_
      cases d <;> exact hx
    · rw [put_size, r.size]
    · rw [put_defers, r.defers]
  obtain ⟨hdf, v', hv', h'⟩ := fin
  rcases doneC_or hd with he | he
  · subst he
    first
      | exact ⟨hdf, v', hv', v', rfl, h'⟩
      | exact ⟨hdf, v', hv', ⟨v', rfl, h'⟩⟩
  · subst he
    first
      | exact ⟨hdf, v', hv', v', rfl, h'⟩
      | exact ⟨hdf, v', hv', ⟨v', rfl, h'⟩⟩

end
end Go.Proofs.YtbmlhmgldipnhabGreatE
