/-
  The engine, part 22: code, compiled; the rules that step through it.
-/
import Derived.Test.YtbmlhmgldipnhabGreatE21
set_option linter.unusedVariables false
set_option linter.unusedSimpArgs false
namespace Go.Proofs.YtbmlhmgldipnhabGreatE
open Go

/-- Code. Behind a region: the slots that are still wanted. -/
inductive CI where
  | done
  | exit (id : Nat)
  | ret
  | reg (its : List It) (live : List Nat)
  | drw (its : List It) (live : List Nat)
  | seq (a b : CI)
  | cond (c : Opd) (a b : CI)
  | block (id : Nat) (c : CI)
  | loop (c : CI)
  deriving Inhabited

def comp (P : Program) (N : Nat) (h : Nat → List Nat) : Code → Option CI
  | .skip => some .done
  | .exit id => some (.exit id)
  | .ret => some .ret
  | .region id ops false => (cIts P N ops false [] ops.toList).map fun l => .reg l (h id)
  | .region id ops true => if P.follows .mixedOrders then (cIts P N ops true [] ops.toList).map fun l => .drw l (h id) else none
  | .seq a b => (comp P N h a).bind fun x => (comp P N h b).map fun y => .seq x y
  | .cond c a b => (cOpd c).bind fun c => (comp P N h a).bind fun x => (comp P N h b).map fun y => .cond c x y
  | .block id c => (comp P N h c).map fun x => .block id x
  | .loop c => (comp P N h c).map fun x => .loop x
  | _ => none

/-- Code from a state: whatever the model's code that is compiled to this, it leads there. -/
def AW (P : Program) (N : Nat) (c : CI) (s : St) (Q : Exit → St → Prop) : Prop := ∀ h code, comp P N h code = some c → ACode P N code s Q

/-- Slots that are no longer wanted are forgotten. -/
def keepEnv (live : List Nat) (e : List (Nat × AV)) : List (Nat × AV) := live.filterMap fun t => (e.lookup t).map fun v => (t, v)
def St.keep (s : St) (live : List Nat) : St := { s with env := keepEnv live s.env }

theorem keepEnv_lookup {live : List Nat} {e : List (Nat × AV)} {t : Nat} {v : AV} (h : (keepEnv live e).lookup t = some v) : e.lookup t = some v := by
  induction live with
  | nil => simp [keepEnv] at h
  | cons x l ih =>
    simp only [keepEnv, List.filterMap_cons] at h
    cases hx : e.lookup x with
    | none => simp only [hx, Option.map_none] at h; exact ih h
    | some u =>
      simp only [hx, Option.map_some] at h
      by_cases e1 : t = x
      · subst e1; rw [lookup_cons_eq] at h; rw [hx]; exact h
      · rw [lookup_cons_ne e1] at h; exact ih h

theorem Wk.keep (s : St) (live : List Nat) : Wk s (s.keep live) := fun N β Z a w r =>
  ⟨β, Z, ⟨r.toObjs.same (fun _ _ h => h) fun _ h => h, fun t v h => r.env t v (keepEnv_lookup h), r.size, r.defers⟩, { SExt.refl β Z s w with owned := fun _ _ h => h, low := fun _ _ h => ⟨rfl, h⟩ }⟩

section
variable {P : Program} {N : Nat} {s : St} {Q : Exit → St → Prop}

theorem AW.weak {c : CI} {s1 : St} (hw : Wk s s1) (h : AW P N c s1 Q) : AW P N c s Q := fun hh code hc => ACode.weak hw (h hh code hc)
theorem AW.mono {c : CI} {Q' : Exit → St → Prop} (h : AW P N c s Q) (hq : ∀ e s', Q e s' → Q' e s') : AW P N c s Q' := fun hh code hc => (h hh code hc).mono hq

def CompOf (P : Program) (N : Nat) (h : Nat → List Nat) (code : Code) : CI → Prop
  | .done => code = .skip
  | .exit id => code = .exit id
  | .ret => code = .ret
  | .reg l live => ∃ id ops, code = .region id ops false ∧ cIts P N ops false [] ops.toList = some l ∧ live = h id
  | .drw l live => ∃ id ops, code = .region id ops true ∧ P.follows .mixedOrders = true ∧ cIts P N ops true [] ops.toList = some l ∧ live = h id
  | .seq a b => ∃ x y, code = .seq x y ∧ comp P N h x = some a ∧ comp P N h y = some b
  | .cond c a b => ∃ q x y, code = .cond q x y ∧ cOpd q = some c ∧ comp P N h x = some a ∧ comp P N h y = some b
  | .block id c => ∃ x, code = .block id x ∧ comp P N h x = some c
  | .loop c => ∃ x, code = .loop x ∧ comp P N h x = some c

theorem comp_inv {h : Nat → List Nat} {code : Code} {c : CI} (hc : comp P N h code = some c) : CompOf P N h code c := by
  cases code with
  | skip => injection hc with hc; subst hc; exact rfl
  | exit id => injection hc with hc; subst hc; exact rfl
  | ret => injection hc with hc; subst hc; exact rfl
  | region id ops d =>
    cases d with
    | false =>
      obtain ⟨l, h1, rfl⟩ := Option.map_eq_some_iff.1 hc
      exact ⟨id, ops, rfl, h1, rfl⟩
    | true =>
      simp only [comp] at hc
      split at hc
      · rename_i hm
        obtain ⟨l, h1, rfl⟩ := Option.map_eq_some_iff.1 hc
        exact ⟨id, ops, rfl, hm, h1, rfl⟩
      · cases hc
  | seq a b =>
    obtain ⟨x, h1, hc⟩ := Option.bind_eq_some_iff.1 hc
    obtain ⟨y, h2, rfl⟩ := Option.map_eq_some_iff.1 hc
    exact ⟨a, b, rfl, h1, h2⟩
  | cond q a b =>
    obtain ⟨c', h0, hc⟩ := Option.bind_eq_some_iff.1 hc
    obtain ⟨x, h1, hc⟩ := Option.bind_eq_some_iff.1 hc
    obtain ⟨y, h2, rfl⟩ := Option.map_eq_some_iff.1 hc
    exact ⟨q, a, b, rfl, h0, h1, h2⟩
  | block id x =>
    obtain ⟨y, h2, rfl⟩ := Option.map_eq_some_iff.1 hc
    exact ⟨x, rfl, h2⟩
  | loop x =>
    obtain ⟨y, h2, rfl⟩ := Option.map_eq_some_iff.1 hc
    exact ⟨x, rfl, h2⟩
  | _ => cases hc

theorem AW.done (h : Q .normal s) : AW P N .done s Q := fun hh code hc => by
  have : code = .skip := comp_inv hc
  rw [this]; exact .skip h
theorem AW.exit {id : Nat} (h : Q (.exit id) s) : AW P N (.exit id) s Q := fun hh code hc => by
  have : code = .exit id := comp_inv hc
  rw [this]; exact .exit h
theorem AW.ret (h : Q .ret s) : AW P N .ret s Q := fun hh code hc => by
  have : code = .ret := comp_inv hc
  rw [this]; exact .ret h

theorem AW.seq {a b : CI} (h : AW P N a s (Exit.thenK (fun s' => AW P N b s' Q) Q)) : AW P N (.seq a b) s Q := fun hh code hc => by
  obtain ⟨x, y, rfl, h1, h2⟩ := comp_inv hc
  exact ACode.seq (M := fun s' => AW P N b s' Q) (h hh x h1) fun s' h' => h' hh y h2

theorem AW.cond {c : Opd} {a b : CI} {t : Bool} (ht : s.get c = .sc (.bool t)) (h : if t then AW P N a s Q else AW P N b s Q) : AW P N (.cond c a b) s Q := fun hh code hc => by
  obtain ⟨q, x, y, rfl, h0, h1, h2⟩ := comp_inv hc
  intro β Z a w r
  have hv := opd_rep r h0
  rw [ht] at hv
  refine wp_cond (rep_bool hv) ?_
  cases t
  · exact h hh y h2 β Z a w r
  · exact h hh x h1 β Z a w r

theorem AW.block {id : Nat} {c : CI} (h : AW P N c s (Exit.inB id (Q .normal) Q)) : AW P N (.block id c) s Q := fun hh code hc => by
  obtain ⟨x, rfl, h1⟩ := comp_inv hc
  exact ACode.block (h hh x h1)

theorem AW.loop {c : CI} (h : LoopS (fun s Q => AW P N c s Q) s Q) : AW P N (.loop c) s Q := fun hh code hc => by
  obtain ⟨x, rfl, h1⟩ := comp_inv hc
  exact ACode.loop (B := fun s Q => AW P N c s Q) (fun s Q h => h hh x h1) h

/-- A loop by what holds at its head: from each state in which it holds, with measure n, a round leads out, or back with a smaller measure. -/
theorem AW.loopI {c : CI} (I : Nat → St → Prop) (n : Nat) (h0 : I n s) (hr : ∀ n s, I n s → AW P N c s (Exit.thenK (fun s' => ∃ m, m < n ∧ I m s') Q)) : AW P N (.loop c) s Q := by
  refine AW.loop fun J hJ => ?_
  have key : ∀ n s, I n s → J s := by
    intro n
    induction n using Nat.strongRecOn with
    | _ n ih =>
      intro s hs
      refine hJ s ((hr n s hs).mono fun e s' q => ?_)
      cases e with
      | normal => obtain ⟨m, hm, hi⟩ := q; exact ih m hm s' hi
      | _ => exact q
  exact key n s h0

theorem AW.reg_ {its : List It} {live : List Nat} (h : RegK P its s (fun s' => Q .normal (s'.keep live))) : AW P N (.reg its live) s Q := fun hh code hc => by
  obtain ⟨id, ops, rfl, h1, rfl⟩ := comp_inv hc
  intro β Z a w r
  have := ACode.region (N := N) (id := id) h1 (Q := fun e s' => match e with | .normal => Q .normal (s'.keep (hh id)) | e => Q e s') h β Z a w r
  refine wp_mono this fun e a' w' ⟨s', β', Z', q, r', e'⟩ => ?_
  cases e with
  | normal =>
    obtain ⟨β'', Z'', r'', e''⟩ := Wk.keep s' (hh id) N β' Z' a' w' r'
    exact ⟨_, β'', Z'', q, r'', e'.trans e''⟩
  | _ => exact ⟨s', β', Z', q, r', e'⟩

theorem AW.drw_ {its : List It} {live : List Nat} (h : RegD P its s (fun s' => Q .normal (s'.keep live))) : AW P N (.drw its live) s Q := fun hh code hc => by
  obtain ⟨id, ops, rfl, hm, h1, rfl⟩ := comp_inv hc
  intro β Z a w r
  have := ACode.drawn (N := N) hm (id := id) (cIts_at _ _ _ h1) (Q := fun e s' => match e with | .normal => Q .normal (s'.keep (hh id)) | e => Q e s') h β Z a w r
  refine wp_mono this fun e a' w' ⟨s', β', Z', q, r', e'⟩ => ?_
  cases e with
  | normal =>
    obtain ⟨β'', Z'', r'', e''⟩ := Wk.keep s' (hh id) N β' Z' a' w' r'
    exact ⟨_, β'', Z'', q, r'', e'.trans e''⟩
  | _ => exact ⟨s', β', Z', q, r', e'⟩

/-! ### regions, reckoned -/
/-- Here reckoning stops: at a call. -/
def Stop (P : Program) (s : St) (it : It) (its : List It) (K : St → Prop) : Prop := ∃ ev, RunIt P s it ev ∧ RegK P its (s.app it.d ev) K
def StopD (P : Program) (s : St) (it : It) (its : List It) (acc : List (It × Ev)) (K : St → Prop) : Prop :=
  ∃ ev, RunIt P s it ev ∧ ∃ l, RegE P its (s.app it.d ev) l ∧ apartAll 0 (acc.reverse ++ (it, ev) :: l) = true ∧ K (stS (fun _ => true) 0 l (s.app it.d ev))

def I.calls : I → Bool
  | .call .. | .callv .. => true
  | _ => false

/-- Does an operation with this guard run: 'none': it is not known. -/
def runs (s : St) : Option (Nat × Bool) → Option Bool
  | none => some true
  | some (t, b) => match s.get (.t t) with
    | .sc (.bool c) => some (c == b)
    | .tup [] => some false
    | _ => none

/-- The operations one after another. -/
def RegC (P : Program) : List It → St → (St → Prop) → Prop
  | [], s, K => K s
  | it :: its, s, K => if it.i.calls then Stop P s it its K else match runs s it.g with
    | some true => match it.i.eval s.get s.ob it.m with
      | some ev => s.nm.contains it.m = false ∧ RegC P its (s.app it.d ev) K
      | none => False
    | some false => RegC P its (s.app it.d skipEv) K
    | none => False
/-- May the operations change places: it is asked last, and reckoned by the kernel. -/
def ApD (acc : List (It × Ev)) : Prop := apartAll 0 acc.reverse = true

/-- The same, keeping what each gave, for a region that draws its order. -/
def RegCD (P : Program) : List It → List (It × Ev) → St → (St → Prop) → Prop
  | [], acc, s, K => ApD acc ∧ K s
  | it :: its, acc, s, K => if it.i.calls then StopD P s it its acc K else match runs s it.g with
    | some true => match it.i.eval s.get s.ob it.m with
      | some ev => s.nm.contains it.m = false ∧ RegCD P its ((it, ev) :: acc) (s.app it.d ev) K
      | none => False
    | some false => RegCD P its ((it, skipEv) :: acc) (s.app it.d skipEv) K
    | none => False

theorem X.eval_C {o : X} {g : Opd → AV} {ob : Nat → Option Node} {m : Nat} {ev : Ev} (h : o.eval g ob m = some ev) : ev.C = [] ∨ ev.C = [m] := by
  cases o <;> simp only [X.eval] at h
  case mkmap => right; injection h with h; subst h; rfl
  case mmn =>
    left
    obtain ⟨v, _, h⟩ := Option.bind_eq_some_iff.1 h
    split at h
    · injection h with h; subst h; rfl
    · cases h
  all_goals
    left
    repeat' split at h
    all_goals first | (cases h; done) | (injection h with h; subst h; rfl)

theorem I.eval_C {i : I} {g : Opd → AV} {ob : Nat → Option Node} {m : Nat} {ev : Ev} (h : i.eval g ob m = some ev) : ∀ k, k ∈ ev.C → k = m := by
  have np : ∀ {q : Option AV} {ev : Ev}, q.bind (fun v => (some ⟨v, [], [], []⟩ : Option Ev)) = some ev → ev.C = [] := fun h => by
    obtain ⟨v, _, h⟩ := Option.bind_eq_some_iff.1 h
    injection h with h; subst h; rfl
  have key : ev.C = [] ∨ ev.C = [m] := by
    cases i <;> simp only [I.eval] at h
    case call => cases h
    case callv => cases h
    case bad => cases h
    case ex x => exact X.eval_C h
    case mksl =>
      right
      split at h
      · split at h
        · injection h with h; subst h; rfl
        · cases h
      · cases h
    case mm =>
      left
      split at h
      · injection h with h; subst h; rfl
      · cases h
    case load => left; unfold loadV at h; repeat' split at h
                 all_goals first | (cases h; done) | (obtain ⟨_, _, h⟩ := Option.map_eq_some_iff.1 h; subst h; rfl)
    case store => left; unfold storeV at h; repeat' split at h
                  all_goals first | (cases h; done) | (injection h with h; subst h; rfl)
    case app =>
      right
      unfold appV at h
      obtain ⟨q, _, h⟩ := Option.bind_eq_some_iff.1 h
      repeat' split at h
      all_goals first | (cases h; done) | (injection h with h; subst h; rfl)
    case box => right; split at h <;> first | (cases h; done) | (injection h with h; subst h; rfl)
    case alloc => right; injection h with h; subst h; rfl
    case bsl => right; obtain ⟨q, _, h⟩ := Option.bind_eq_some_iff.1 h; injection h with h; subst h; rfl
    case sslc =>
      left
      split at h
      · obtain ⟨q, _, h⟩ := Option.bind_eq_some_iff.1 h
        obtain ⟨q, _, h⟩ := Option.bind_eq_some_iff.1 h
        split at h
        · injection h with h; subst h; rfl
        · cases h
      · cases h
    case eqs =>
      left
      split at h
      · obtain ⟨q, _, h⟩ := Option.bind_eq_some_iff.1 h; injection h with h; subst h; rfl
      · cases h
    case len => left; obtain ⟨q, _, h⟩ := Option.bind_eq_some_iff.1 h; injection h with h; subst h; rfl
    case build => left; obtain ⟨q, _, h⟩ := Option.bind_eq_some_iff.1 h; injection h with h; subst h; rfl
    case sidx =>
      left
      split at h
      · split at h
        · obtain ⟨q, _, h⟩ := Option.bind_eq_some_iff.1 h; injection h with h; subst h; rfl
        · cases h
      · cases h
    all_goals left; first
      | exact np h
      | (injection h with h; subst h; rfl)
      | (split at h <;> first | (cases h; done) | exact np h | (injection h with h; subst h; rfl))
  intro k hk
  rcases key with h | h <;> rw [h] at hk <;> simp at hk
  exact hk

theorem runs_true {s : St} {it : It} (h : runs s it.g = some true) {m : Nat} (hm : it.m = m) {ev : Ev} (h1 : OpS P s it.m it.i ev) (h2 : it.m ∉ s.nm) (h3 : ∀ k, k ∈ ev.C → k ∉ s.nm) : RunIt P s it ev := by
  unfold runs at h
  split at h
  · rename_i hg; exact .free hg h1 h2 h3
  · rename_i t b hg
    split at h
    · rename_i c hc
      simp only [Option.some.injEq, beq_iff_eq] at h
      subst h
      exact .held t c hg hc h1 h2 h3
    · cases h
    · cases h
theorem runs_false {s : St} {it : It} (h : runs s it.g = some false) : RunIt P s it skipEv := by
  unfold runs at h
  split at h
  · cases h
  · rename_i t b hg
    split at h
    · rename_i c hc
      simp only [Option.some.injEq] at h
      have : c = !b := by cases c <;> cases b <;> simp_all
      exact .skip t b hg (.inl (by rw [hc, this])) rfl
    · rename_i hc; exact .skip t b hg (.inr hc) rfl
    · cases h

theorem eval_run {s : St} {it : It} {ev : Ev} (hr : runs s it.g = some true) (h : it.i.eval s.get s.ob it.m = some ev) (hm : s.nm.contains it.m = false) : RunIt P s it ev := by
  have hm : it.m ∉ s.nm := by simpa using hm
  exact runs_true hr rfl (.op h) hm fun k hk => by rw [I.eval_C h k hk]; exact hm

theorem RegC.sound {K : St → Prop} : ∀ (its : List It) (s : St), RegC P its s K → RegK P its s K
  | [], _, h => h
  | it :: its, s, h => by
    unfold RegC at h
    split at h
    · exact h
    · split at h
      · rename_i hr
        split at h
        · rename_i ev he
          exact ⟨ev, eval_run hr he h.1, RegC.sound its _ h.2⟩
        · exact h.elim
      · rename_i hr
        exact ⟨skipEv, runs_false hr, RegC.sound its _ h⟩
      · exact h.elim

theorem stS_true (l : List (It × Ev)) (p : It × Ev) : ∀ (k : Nat) (s : St), stS (fun _ => true) k (p :: l) s = stS (fun _ => true) (k + 1) l (s.app p.1.d p.2) := fun k s => by simp [stS]
theorem stS_shift (l : List (It × Ev)) : ∀ (k k' : Nat) (s : St), stS (fun _ => true) k l s = stS (fun _ => true) k' l s := by
  induction l with
  | nil => intros; rfl
  | cons p l ih => intro k k' s; rw [stS_true, stS_true]; exact ih _ _ _

theorem RegCD.sound {K : St → Prop} : ∀ (its : List It) (acc : List (It × Ev)) (s : St), RegCD P its acc s K → ∃ l, RegE P its s l ∧ apartAll 0 (acc.reverse ++ l) = true ∧ K (stS (fun _ => true) 0 l s)
  | [], acc, s, h => ⟨[], rfl, by have := h.1; unfold ApD at this; simpa using this, h.2⟩
  | it :: its, acc, s, h => by
    have go : ∀ ev, RunIt P s it ev → RegCD P its ((it, ev) :: acc) (s.app it.d ev) K → ∃ l, RegE P (it :: its) s l ∧ apartAll 0 (acc.reverse ++ l) = true ∧ K (stS (fun _ => true) 0 l s) := fun ev h1 h2 => by
      obtain ⟨l, h3, h4, h5⟩ := RegCD.sound its _ _ h2
      exact ⟨(it, ev) :: l, ⟨ev, l, rfl, h1, h3⟩, by simpa using h4, by rw [stS_true, stS_shift l 1 0]; exact h5⟩
    unfold RegCD at h
    split at h
    · obtain ⟨ev, h1, l, h3, h4, h5⟩ := h
      exact ⟨(it, ev) :: l, ⟨ev, l, rfl, h1, h3⟩, h4, by rw [stS_true, stS_shift l 1 0]; exact h5⟩
    · split at h
      · rename_i hr
        split at h
        · rename_i ev he
          exact go ev (eval_run hr he h.1) h.2
        · exact h.elim
      · rename_i hr
        exact go skipEv (runs_false hr) h
      · exact h.elim

/-! ### a call, where reckoning stopped -/
theorem Stop.call {s : St} {f : FuncId} {xs : List Opd} {d : Option Nat} {g : Option (Nat × Bool)} {a : List Nat} {m : Nat} {its : List It} {K : St → Prop} (hg : runs s g = some true) {ev : Ev} (h : CallS P s m f (xs.map s.get) ev) (hm : (m :: ev.C).all (fun k => !s.nm.contains k) = true) (hk : RegC P its (s.app d ev) K) : Stop P s ⟨.call f xs, d, g, a, m⟩ its K := by
  rw [List.all_eq_true] at hm
  exact ⟨ev, runs_true (it := ⟨.call f xs, d, g, a, m⟩) hg rfl (.call h) (by have := hm _ (List.mem_cons_self ..); simp at this; exact this) (fun k hk => by simpa using hm k (List.mem_cons_of_mem _ hk)), RegC.sound its _ hk⟩
theorem Stop.skip {s : St} {i : I} {d : Option Nat} {g : Option (Nat × Bool)} {a : List Nat} {m : Nat} {its : List It} {K : St → Prop} (hg : runs s g = some false) (hk : RegC P its (s.app d skipEv) K) : Stop P s ⟨i, d, g, a, m⟩ its K :=
  ⟨skipEv, runs_false (it := ⟨i, d, g, a, m⟩) hg, RegC.sound its _ hk⟩
theorem StopD.call {s : St} {f : FuncId} {xs : List Opd} {d : Option Nat} {g : Option (Nat × Bool)} {a : List Nat} {m : Nat} {its : List It} {acc : List (It × Ev)} {K : St → Prop} (hg : runs s g = some true) {ev : Ev} (h : CallS P s m f (xs.map s.get) ev) (hm : (m :: ev.C).all (fun k => !s.nm.contains k) = true) (hk : RegCD P its ((⟨.call f xs, d, g, a, m⟩, ev) :: acc) (s.app d ev) K) : StopD P s ⟨.call f xs, d, g, a, m⟩ its acc K := by
  rw [List.all_eq_true] at hm
  obtain ⟨l, h1, h2, h3⟩ := RegCD.sound its _ _ hk
  exact ⟨ev, runs_true (it := ⟨.call f xs, d, g, a, m⟩) hg rfl (.call h) (by have := hm _ (List.mem_cons_self ..); simp at this; exact this) (fun k hk => by simpa using hm k (List.mem_cons_of_mem _ hk)), l, h1, by simpa using h2, h3⟩
theorem StopD.skip {s : St} {i : I} {d : Option Nat} {g : Option (Nat × Bool)} {a : List Nat} {m : Nat} {its : List It} {acc : List (It × Ev)} {K : St → Prop} (hg : runs s g = some false) (hk : RegCD P its ((⟨i, d, g, a, m⟩, skipEv) :: acc) (s.app d skipEv) K) : StopD P s ⟨i, d, g, a, m⟩ its acc K := by
  obtain ⟨l, h1, h2, h3⟩ := RegCD.sound its _ _ hk
  exact ⟨skipEv, runs_false (it := ⟨i, d, g, a, m⟩) hg, l, h1, by simpa using h2, h3⟩

theorem AW.reg {its : List It} {live : List Nat} (h : RegC P its s (fun s' => Q .normal (s'.keep live))) : AW P N (.reg its live) s Q := AW.reg_ (RegC.sound its s h)
theorem AW.drw {its : List It} {live : List Nat} (h : RegCD P its [] s (fun s' => Q .normal (s'.keep live))) : AW P N (.drw its live) s Q := by
  obtain ⟨l, h1, h2, h3⟩ := RegCD.sound its [] s h
  exact AW.drw_ ⟨l, h1, by simpa using h2, h3⟩

/-! ### the steps of a walk: what is asked behind is hidden in a letter -/
theorem RegK.mono {K K' : St → Prop} (hk : ∀ s, K s → K' s) : ∀ (its : List It) (s : St), RegK P its s K → RegK P its s K'
  | [], _, h => hk _ h
  | it :: its, s, ⟨ev, h1, h2⟩ => ⟨ev, h1, RegK.mono hk its _ h2⟩

theorem AW.r1 {its : List It} {live : List Nat} (h : ∀ K : St → Prop, (∀ s', Q .normal (s'.keep live) → K s') → RegC P its s K) : AW P N (.reg its live) s Q := AW.reg (h _ fun _ h => h)
theorem AW.d1 {its : List It} {live : List Nat} (h : ∀ K : St → Prop, (∀ s', Q .normal (s'.keep live) → K s') → RegCD P its [] s K) : AW P N (.drw its live) s Q := AW.drw (h _ fun _ h => h)
theorem AW.r {its : List It} {live : List Nat} {b : CI} (h : ∀ K : St → Prop, (∀ s', AW P N b (s'.keep live) Q → K s') → RegC P its s K) : AW P N (.seq (.reg its live) b) s Q := AW.seq (AW.reg (h _ fun _ h => h))
theorem AW.d {its : List It} {live : List Nat} {b : CI} (h : ∀ K : St → Prop, (∀ s', AW P N b (s'.keep live) Q → K s') → RegCD P its [] s K) : AW P N (.seq (.drw its live) b) s Q := AW.seq (AW.drw (h _ fun _ h => h))
/-- 'thenK' with a letter. -/
theorem AW.q {a b : CI} (h : ∀ M : St → Prop, (∀ s', AW P N b s' Q → M s') → AW P N a s (Exit.thenK M Q)) : AW P N (.seq a b) s Q := AW.seq (h _ fun _ h => h)
theorem AW.k {id : Nat} {c : CI} (h : ∀ M : St → Prop, (∀ s', Q .normal s' → M s') → AW P N c s (Exit.inB id M Q)) : AW P N (.block id c) s Q := AW.block (h _ fun _ h => h)

end
end Go.Proofs.YtbmlhmgldipnhabGreatE
