/-
  The engine, part 24: loops; from a function's body to its contract.
-/
import Derived.Test.YtbmlhmgldipnhabGreatE23
import Derived.Tactics
set_option linter.unusedVariables false
set_option linter.unusedSimpArgs false
namespace Go.Proofs.YtbmlhmgldipnhabGreatE
open Go

section
variable {P : Program} {N : Nat} {s : St} {Q : Exit → St → Prop}

/-- A loop by what holds at its head, each round ending in a state that can be looked at so. -/
theorem AW.loopW {c : CI} (I : Nat → St → Prop) (n : Nat) (h0 : ∃ s', Wk s s' ∧ I n s') (hr : ∀ n s, I n s → AW P N c s (Exit.thenK (fun s' => ∃ m s'', m < n ∧ Wk s' s'' ∧ I m s'') Q)) : AW P N (.loop c) s Q := by
  obtain ⟨s', hw, h0⟩ := h0
  refine AW.weak hw (AW.loopI (fun n s => ∃ s', Wk s s' ∧ I n s') n ⟨s', Wk.refl s', h0⟩ fun n s ⟨s', hw, hs⟩ => AW.weak hw ((hr n s' hs).mono fun e t q => ?_))
  cases e with
  | normal => obtain ⟨m, t', h1, h2, h3⟩ := q; exact ⟨m, h1, t', h2, h3⟩
  | _ => exact q

/-- The same, what a round must end in hidden in a letter. -/
theorem AW.l {c : CI} (I : Nat → St → Prop) (n : Nat) (h0 : ∃ s', Wk s s' ∧ I n s') (hr : ∀ n s, I n s → ∀ R : St → Prop, (∀ m s' s'', m < n → Wk s' s'' → I m s'' → R s') → AW P N c s (Exit.thenK R Q)) : AW P N (.loop c) s Q :=
  AW.loopW I n h0 fun n s hi => hr n s hi _ fun m s' s'' h1 h2 h3 => ⟨m, s'', h1, h2, h3⟩

/-! ### contracts -/
def argEnv : Nat → List AV → List (Nat × AV)
  | _, [] => []
  | n, v :: vs => (n, v) :: argEnv (n + 1) vs

def entry (args : List AV) (pre : List (Nat × Node)) : St := { stOf pre with env := argEnv 0 args }

theorem argEnv_lookup : ∀ (l : List AV) (n t : Nat) (v : AV), (argEnv n l).lookup t = some v → n ≤ t ∧ l[t - n]? = some v
  | [], n, t, v, h => by simp [argEnv] at h
  | x :: l, n, t, v, h => by
    simp only [argEnv] at h
    by_cases e : t = n
    · subst e
      rw [lookup_cons_eq] at h
      simpa using h
    · rw [lookup_cons_ne e] at h
      obtain ⟨h1, h2⟩ := argEnv_lookup l (n + 1) t v h
      refine ⟨by omega, ?_⟩
      rw [show t - n = (t - (n + 1)) + 1 by omega]
      simpa using h2

/-- Where a result stands: in a slot; in a cell that a slot points to (its size, is it a struct). -/
inductive RS where
  | slot (t : Nat)
  | cell (t sz : Nat) (ag : Bool)
  deriving Inhabited

def cRes (P : Program) : ResultVar → Option RS
  | .tmp t => some (.slot t)
  | .cell a t => (szOf P t).bind fun sz => (agOf P t).bind fun ag => if ag = true ∨ sz = 1 then some (.cell a sz ag) else none
def cRess (P : Program) : List ResultVar → Option (List RS)
  | [] => some []
  | x :: xs => (cRes P x).bind fun y => (cRess P xs).map (y :: ·)
def resTs (P : Program) (fn : Func) : Option (List RS) := cRess P fn.results.toList

def RS.val (s : St) : RS → AV
  | .slot t => s.get (.t t)
  | .cell t sz ag => ((loadV s.ob sz ag (s.get (.t t))).map Ev.v).getD .dead
def resV (s : St) : List RS → AV
  | [t] => t.val s
  | ts => .tup (ts.map fun t => t.val s)
/-- The cells in which results stand can be read. -/
def resOk (s : St) : List RS → Prop
  | [] => True
  | .slot _ :: ts => resOk s ts
  | .cell t sz ag :: ts => (loadV s.ob sz ag (s.get (.t t))).isSome = true ∧ resOk s ts

theorem rep_res1 {β : Places} {Z : Froz} {a : Act} {w : World} (r : Rel N β Z s a w) {x : ResultVar} {y : RS} (h : cRes P x = some y) (hok : resOk s [y]) :
    ∃ v, ((match x with
      | .tmp t => pure (a.tmps.getD t undef)
      | .cell q t => do loadVar t (← asAddr (a.tmps.getD q undef))) : Sem Value).run P w = .ok v w ∧ CRep β Z w (y.val s) v := by
  cases x with
  | tmp t =>
    simp only [cRes, Option.some.injEq] at h
    subst h
    exact ⟨_, rfl, get_rep r t⟩
  | cell q t =>
    simp only [cRes, Option.bind_eq_some_iff] at h
    obtain ⟨sz, h1, ag, h2, h⟩ := h
    split at h
    · rename_i h3
      simp only [Option.some.injEq] at h
      subst h
      obtain ⟨ev, hev⟩ := Option.isSome_iff_exists.1 hok.1
      have hq := get_rep r q
      obtain ⟨u', g1, g2, _, _⟩ := loadV_sound (P := P) r h1 h2 (fun hf => h3.resolve_left (by simp [hf])) hq hev
      refine ⟨u', ?_, by simpa [RS.val, hev] using g2⟩
      have hp : ∃ ad, a.tmps.getD q undef = .pointer (some ad) := by
        generalize a.tmps.getD q undef = u at hq
        cases hx : s.get (.t q) with
        | fp cs =>
          rw [hx] at hq
          cases hq with
          | fro hq => cases hq; exact ⟨_, rfl⟩
        | ptr k z i off =>
          rw [hx] at hq
          cases hq with
          | fro hq => cases hq
          | ptr => exact ⟨_, rfl⟩
        | _ => rw [hx] at hev; simp [loadV] at hev
      obtain ⟨ad, hp⟩ := hp
      show (do loadVar t (← asAddr (a.tmps.getD q undef)) : Sem Value).run P w = _
      rw [hp] at g1 ⊢
      simp only [Instr.loadAt, Instr.sureAddr, asAddr, Sem.run_bind, Sem.run_pure, Result.andThen_ok] at g1 ⊢
      exact g1
    · cases h

theorem rep_resV {β : Places} {Z : Froz} {a : Act} {w : World} (r : Rel N β Z s a w) {fn : Func} {ts : List RS} (h : resTs P fn = some ts) (hok : resOk s ts) : ∃ v, (results fn a.tmps).run P w = .ok v w ∧ CRep β Z w (resV s ts) v := by
  have key : ∀ (l : List ResultVar) (ts : List RS), cRess P l = some ts → resOk s ts → ∃ vs : List Value, (l.mapM (fun x => (match x with
      | .tmp t => pure (a.tmps.getD t undef)
      | .cell q t => do loadVar t (← asAddr (a.tmps.getD q undef)) : Sem Value)) : Sem (List Value)).run P w = .ok vs w ∧ vs.length = ts.length ∧ ∀ (j : Nat) (c : RS), ts[j]? = some c → CRep β Z w (c.val s) (vs.toArray.getD j undef) := by
    intro l
    induction l with
    | nil =>
      intro ts h _
      simp only [cRess, Option.some.injEq] at h
      subst h
      exact ⟨[], by simp, rfl, fun j c hc => by simp at hc⟩
    | cons x l ih =>
      intro ts h hok
      simp only [cRess, Option.bind_eq_some_iff, Option.map_eq_some_iff] at h
      obtain ⟨y, h1, ys, h2, rfl⟩ := h
      have hok1 : resOk s [y] := by cases y with
        | slot t => trivial
        | cell t sz ag => exact ⟨hok.1, trivial⟩
      have hok2 : resOk s ys := by cases y with
        | slot t => exact hok
        | cell t sz ag => exact hok.2
      obtain ⟨v, g1, g2⟩ := rep_res1 r h1 hok1
      obtain ⟨vs, g3, g4, g5⟩ := ih ys h2 hok2
      refine ⟨v :: vs, ?_, by simp [g4], fun j c hc => ?_⟩
      · rw [List.mapM_cons]
        simp only [Sem.run_bind, g1, Result.andThen_ok, g3, Sem.run_pure]
      · cases j with
        | zero => simp at hc; subst hc; simpa using g2
        | succ j => simpa using g5 j c (by simpa using hc)
  obtain ⟨vs, g1, g2, g3⟩ := key _ _ h hok
  have hrun : (results fn a.tmps).run P w = .ok (if h : vs.toArray.size = 1 then vs.toArray[0] else .tuple vs.toArray) w := by
    unfold results
    rw [Array.mapM_eq_mapM_toList]
    simp only [Sem.run_bind, Sem.run_map]
    have g1' := g1
    first
      | (rw [g1']; rfl)
      | (erw [g1']; rfl)
  have htup : CRep β Z w (.tup (ts.map fun t => t.val s)) (.tuple vs.toArray) := .tup _ _ (by simp [g2]) fun j c hc => by
    rw [List.getElem?_map] at hc
    obtain ⟨y, hy, rfl⟩ := Option.map_eq_some_iff.1 hc
    exact g3 j y hy
  refine ⟨_, hrun, ?_⟩
  clear hrun g1 key hok h
  match ts, vs, g2, g3, htup with
  | [], [], _, _, htup => simpa [resV] using htup
  | [y], [v], _, g3, _ => simpa [resV] using g3 0 y rfl
  | y :: y' :: ys, v :: v' :: vs, _, _, htup => simpa [resV] using htup

/-- How a call ends: its result, the new objects of the result ('own': the number of each, its name), the objects that were handed over. -/
structure EndsN (s : St) (ts : List RS) (r : AV) (post : List (Nat × Node)) (own : List (Nat × Nat)) (n : Nat) (ρ : Nat → Nat) : Prop where
  res : (bindR n r).1 = (resV s ts).ren ρ
  names : (resV s ts).names (own.map (·.2) ++ keys post) = true
  new : ∀ j nd, (bindR n r).2.lookup j = some nd → ∃ i k nd0, (i, k) ∈ own ∧ j = n + i ∧ s.ob k = some nd0 ∧ nd0.names (own.map (·.2) ++ keys post) = true ∧ nd = nd0.ren ρ
  old : ∀ k nd, post.lookup k = some nd → ∃ nd0, s.ob k = some nd0 ∧ nd0.names (own.map (·.2) ++ keys post) = true ∧ nd = nd0.ren ρ
  keys : ∀ i k, (i, k) ∈ own → n + i ∈ keys (bindR n r).2

def ownRen (own : List (Nat × Nat)) (n : Nat) : Nat → Nat := fun k => ((own.map fun p => (p.2, p.1)).lookup k).elim k (n + ·)

structure Ends (s : St) (ts : List RS) (r : AV) (pre post : List (Nat × Node)) (own : List (Nat × Nat)) : Prop where
  ends : ∀ n, (∀ k, k ∈ keys pre → k ∉ keys (bindR n r).2) → EndsN s ts r post own n (ownRen own n)
  fst : ∀ i k, (i, k) ∈ own → own.lookup i = some k
  snd : ∀ i k, (i, k) ∈ own → (own.map fun p => (p.2, p.1)).lookup k = some i
  apart : ∀ i k, (i, k) ∈ own → k ∉ keys pre
  post : ∀ k, k ∈ keys post → k ∈ keys pre
  low : ∀ k, k ∈ keys pre → k < 100
  ok : resOk s ts

theorem ends_sound {args : List AV} {pre post : List (Nat × Node)} {β β' : Places} {Z Z' : Froz} {w w' : World} {a' : Act} {ts : List RS} {r : AV} {own : List (Nat × Nat)} (h : Ends s ts r pre post own) (hr : Rel N β' Z' s a' w') (he : SExt β Z (entry args pre) w β' Z' s w')
    {v : Value} (hv : CRep β' Z' w' (resV s ts) v) (n : Nat) (hn : ∀ k, k ∈ keys pre → k ∉ keys (bindR n r).2) :
    ∃ β' Z', CRep β' Z' w' (bindR n r).1 v ∧ Objs β' Z' (stFin pre (bindR n r).2 post) w' ∧ SExt β Z (stOf pre) w β' Z' (stFin pre (bindR n r).2 post) w' ∧ ∀ k, k ∈ keys pre → β' k = β k := by
  have hE := h.ends n hn
  have hpre : ∀ k, k ∈ keys pre → β' k = β k := fun k hk => (he.low k (.inl (h.low k hk)) hk).1
  let β'' : Places := fun j => if j ∈ keys (bindR n r).2 then (own.lookup (j - n)).bind β' else if j ∈ keys pre then β' j else none
  have hown : ∀ i k, (i, k) ∈ own → β'' (n + i) = β' k ∧ ownRen own n k = n + i := fun i k hik => by
    constructor
    · show (if n + i ∈ keys (bindR n r).2 then (own.lookup (n + i - n)).bind β' else _) = _
      rw [if_pos (hE.keys i k hik), Nat.add_sub_cancel_left, h.fst i k hik]
      rfl
    · simp [ownRen, h.snd i k hik]
  have hnot : ∀ k, k ∈ keys pre → ownRen own n k = k := fun k hk => by
    have : (own.map fun p => (p.2, p.1)).lookup k = none := by
      cases e : (own.map fun p => (p.2, p.1)).lookup k with
      | none => rfl
      | some i =>
        obtain ⟨p, hp, hpe⟩ := List.mem_map.1 (mem_of_lookup e)
        simp only [Prod.mk.injEq] at hpe
        have := h.apart p.1 p.2 hp
        rw [hpe.1] at this
        exact absurd hk this
    simp [ownRen, this]
  have hold : ∀ k, k ∈ keys pre → β'' k = β' k := fun k hk => by
    show (if k ∈ keys (bindR n r).2 then _ else if k ∈ keys pre then β' k else none) = _
    rw [if_neg (hn k hk), if_pos hk]
  have hρ : ∀ k, k ∈ own.map (·.2) ++ keys post → β'' (ownRen own n k) = β' k := fun k hk => by
    rcases List.mem_append.1 hk with hk | hk
    · obtain ⟨p, hp, rfl⟩ := List.mem_map.1 hk
      rw [(hown p.1 p.2 hp).2, (hown p.1 p.2 hp).1]
    · rw [hnot k (h.post k hk), hold k (h.post k hk)]
  have hob : ∀ j nd, (stFin pre (bindR n r).2 post).ob j = some nd → ∃ k nd0, k ∈ own.map (·.2) ++ keys post ∧ ownRen own n k = j ∧ s.ob k = some nd0 ∧ nd0.names (own.map (·.2) ++ keys post) = true ∧ nd = nd0.ren (ownRen own n) ∧ β'' j = β' k := fun j nd hj => by
    rw [stFin_ob, lookup_append] at hj
    cases e : (bindR n r).2.lookup j with
    | some x =>
      rw [e] at hj
      simp only [Option.some_or, Option.some.injEq] at hj
      subst hj
      obtain ⟨i, k, nd0, h1, rfl, h3, h4, h5⟩ := hE.new j x e
      exact ⟨k, nd0, List.mem_append.2 (.inl (List.mem_map.2 ⟨_, h1, rfl⟩)), (hown i k h1).2, h3, h4, h5, (hown i k h1).1⟩
    | none =>
      rw [e] at hj
      simp only [Option.none_or] at hj
      obtain ⟨nd0, h3, h4, h5⟩ := hE.old j nd hj
      have hk := mem_keys_of_lookup hj
      exact ⟨j, nd0, List.mem_append.2 (.inr hk), hnot j (h.post j hk), h3, h4, h5, hold j (h.post j hk)⟩
  have hβ : ∀ k p, β'' k = some p → ∃ k', β' k' = some p := fun k p hk => by
    by_cases e : k ∈ keys (bindR n r).2
    · have : (own.lookup (k - n)).bind β' = some p := by simpa [β'', e] using hk
      obtain ⟨q, _, hq⟩ := Option.bind_eq_some_iff.1 this
      exact ⟨q, hq⟩
    · by_cases e' : k ∈ keys pre
      · exact ⟨k, by simpa [β'', e, e'] using hk⟩
      · simp [β'', e, e'] at hk
  refine ⟨β'', Z', ?_, ⟨fun j nd hj => ?_, fun j j' nd nd' b o o' g1 g2 g3 g4 => ?_, hr.froz, fun k b o hk => ?_, fun k p hk => ?_⟩, ⟨he.os, he.tape, he.output, he.size, he.keeps, he.frame, he.frz, fun b hb ⟨j, nd, o, g1, g2⟩ => ?_, fun k _ hk => ⟨(hold k hk).trans (hpre k hk), List.mem_append.2 (.inr hk)⟩⟩, fun k hk => (hold k hk).trans (hpre k hk)⟩
  · rw [hE.res]
    exact hv.ren hρ hE.names
  · obtain ⟨k, nd0, q1, q2, q3, q4, q5, q6⟩ := hob j nd hj
    have := (hr.node k nd0 q3).ren hρ q1 q4
    rw [q2, ← q5] at this
    exact this
  · obtain ⟨k, nd0, q1, q2, q3, q4, q5, q6⟩ := hob j nd g1
    obtain ⟨k', nd0', q1', q2', q3', q4', q5', q6'⟩ := hob j' nd' g2
    rw [q6] at g3
    rw [q6'] at g4
    rw [← q2, ← q2', hr.inj _ _ _ _ _ _ _ q3 q3' g3 g4]
  · obtain ⟨k', hk'⟩ := hβ k _ hk
    exact hr.dom _ _ _ hk'
  · show k ∈ keys (bindR n r).2 ++ keys pre
    by_cases e : k ∈ keys (bindR n r).2
    · exact List.mem_append.2 (.inl e)
    · by_cases e' : k ∈ keys pre
      · exact List.mem_append.2 (.inr e')
      · simp [β'', e, e'] at hk
  · obtain ⟨k, nd0, q1, q2, q3, q4, q5, q6⟩ := hob j nd g1
    rw [q6] at g2
    exact he.owned b hb ⟨k, nd0, o, q3, g2⟩

def compF (P : Program) (hh : Nat → List Nat) (fn : Func) : Option CI := fn.body.bind (comp P fn.ntmps hh)

/-- **From a function's body to its contract.** -/
theorem LCall.of_body {f : FuncId} {fn : Func} {ci : CI} {hh : Nat → List Nat} {ts : List RS} {args : List AV} {r : AV} {pre post : List (Nat × Node)}
    (hf : P.funcs[f]? = some fn) (hcf : compF P hh fn = some ci) (hts : resTs P fn = some ts) (hn : args.length ≤ fn.ntmps)
    (h : AW P fn.ntmps ci (entry args pre) fun e s' => (e = .ret ∨ e = .normal) ∧ ∃ s'' own, Wk s' s'' ∧ Ends s'' ts r pre post own) : LCall P f args pre r post := by
  obtain ⟨code, hb, hc⟩ := Option.bind_eq_some_iff.1 hcf
  intro β Z w vals hob hv
  refine calls_of_wp hf hb ?_
  have hr : Rel fn.ntmps β Z (entry args pre) { tmps := vals ++ Array.replicate (fn.ntmps - vals.size) undef, defers := [] } w := by
    refine ⟨hob.same (fun k nd hk => hk) (fun k hk => hk), fun t v ht => ?_, by have := hv.1; simp; omega, rfl⟩
    obtain ⟨_, h1⟩ := argEnv_lookup args 0 t v ht
    have h2 := hv.2 t v (by simpa using h1)
    have hlt : t < vals.size := by have := (List.getElem?_eq_some_iff.1 h1).1; have := hv.1; omega
    have e : (vals ++ Array.replicate (fn.ntmps - vals.size) undef).getD t undef = vals.getD t undef := by
      simp only [Array.getD_eq_getD_getElem?, Array.getElem?_append, hlt, if_true]
    rw [e]
    exact h2
  refine wp_mono (h hh code hc β Z _ w hr) fun e a' w' ⟨s', β', Z', ⟨hq, s'', own, hw, hE⟩, r', e'⟩ => ?_
  obtain ⟨β2, Z2, r2, e2⟩ := hw _ _ _ _ _ r'
  obtain ⟨v, hv1, hv2⟩ := rep_resV (P := P) r2 hts hE.ok
  have fin : a'.defers = [] ∧ ∃ v, (results fn a'.tmps).run P w' = .ok v w' ∧ ∃ v', Ending.returned v = .returned v' ∧ ∀ n, 100 ≤ n → (∀ k, k ∈ keys pre → k ∉ keys (bindR n r).2) →
      ∃ β' Z', CRep β' Z' w' (bindR n r).1 v' ∧ Objs β' Z' (stFin pre (bindR n r).2 post) w' ∧ SExt β Z (stOf pre) w β' Z' (stFin pre (bindR n r).2 post) w' ∧ ∀ k, k ∈ keys pre → β' k = β k :=
    ⟨r2.defers, v, hv1, v, rfl, fun n _ hn => ends_sound hE r2 (e'.trans e2) hv2 n hn⟩
  rcases hq with rfl | rfl <;> exact fin

/-- A result that names no object. -/
theorem Ends.pure {ts : List RS} {r : AV} (hok : resOk s ts) (hr : resV s ts = r) (hf : r.free = true) (hb : ∀ n, bindR n r = (r, []))  (hren : ∀ ρ, r.ren ρ = r) (hnm : ∀ l, r.names l = true) : Ends s ts r [] [] [] where
  ends n _ := ⟨by rw [hb, hr, hren], by rw [hr]; exact hnm _, fun j nd h => by rw [hb] at h; simp at h, fun k nd h => by simp at h, fun i k h => by simp at h⟩
  fst i k h := by simp at h
  snd i k h := by simp at h
  apart i k h := by simp at h
  post k h := by simp [keys] at h
  low k h := by simp [keys] at h
  ok := hok

end
end Go.Proofs.YtbmlhmgldipnhabGreatE
