/-
  The engine, part 18: an operation, a call too, from a state; that only what it looks at matters.
-/
import Derived.Test.YtbmlhmgldipnhabGreatE17
set_option linter.unusedVariables false
set_option linter.unusedSimpArgs false
namespace Go.Proofs.YtbmlhmgldipnhabGreatE
open Go

/-- What a call gives. -/
def callEv (m : Nat) (res : AV) (pre post : List (Nat × Node)) (F : List Nat) : Ev :=
  ⟨(bindR m res).1, F, ((bindR m res).2 ++ post).map (fun p => (p.1, some p.2)) ++ pre.map (fun p => (p.1, none)), keys (bindR m res).2⟩

theorem called_eq (s : St) (d : Option Nat) (res : AV) (m : Nat) (pre post : List (Nat × Node)) (F : List Nat) : s.app d (callEv m res pre post F) = s.called d res m pre post := by
  simp [St.app, St.called, callEv]

/-- A call by a contract, from a state. -/
inductive CallS (P : Program) (s : St) (m : Nat) (f : FuncId) (vs : List AV) : Ev → Prop where
  | mk (args : List AV) (pre post : List (Nat × Node)) (res : AV) (T : List Nat) (h100 : 100 ≤ m) (hc : LCall P f args pre res post)
    (hl : vs.length = args.length) (hf : ∀ (j : Nat) (v v' : AV), vs[j]? = some v → args[j]? = some v' → Frz s T v v') (hn : namess (keys pre) args = true)
    (hp : ∀ k nd, pre.lookup k = some nd → s.ob k = some nd) (hpn : ∀ k nd, pre.lookup k = some nd → nd.names (keys pre) = true) (hT : ∀ k, k ∈ T → k ∉ keys pre) (hpost : ∀ k, k ∈ keys post → k ∈ keys pre)
    (hz : T = [] ∨ ((bindR m res).1.noF = true ∧ ∀ k nd, ((bindR m res).2 ++ post).lookup k = some nd → nd.noF = true)) (hnew : ∀ k, k ∈ keys (bindR m res).2 → k ∉ keys pre) :
    CallS P s m f vs (callEv m res pre post (T ++ keys pre))

def hasBody (P : Program) (f : FuncId) : Bool := ((P.funcs[f]?).map fun fn => fn.body.isSome && fn.name != "runtime.NumGoroutine") == some true
theorem hasBody_iff {P : Program} {f : FuncId} (h : hasBody P f = true) : ((P.funcs[f]?).map fun fn => fn.body.isSome && fn.name != "runtime.NumGoroutine") = some true := by simpa [hasBody] using h

inductive OpS (P : Program) (s : St) (m : Nat) : I → Ev → Prop where
  | op {i : I} {ev : Ev} (h : i.eval s.get s.ob m = some ev) : OpS P s m i ev
  | call {f : FuncId} {xs : List Opd} {ev : Ev} (h : CallS P s m f (xs.map s.get) ev) : OpS P s m (.call f xs) ev
  | callv {x : Opd} {xs : List Opd} {f : FuncId} {as cs : List AV} {ev : Ev} (hb : hasBody P f = true) (hx : s.get x = .fn f as cs) (h : CallS P s m f (as ++ xs.map s.get ++ cs) ev) : OpS P s m (.callv x xs) ev

/-! ### only what is looked at matters -/
theorem Frz.frame {s s' : St} {T : List Nat} {v v' : AV} (h : Frz s T v v') (ho : ∀ k, k ∈ T → s'.ob k = s.ob k) : Frz s' T v v' := by
  induction h with
  | keep v => exact .keep v
  | nil sz => exact .nil sz
  | sl k sz i len es hT hk hl => exact .sl k sz i len es hT ((ho k hT).trans hk) hl
  | ptr k sz i off es e hT hk he => exact .ptr k sz i off es e hT ((ho k hT).trans hk) he
  | ptrA k sz i off es e e' hT hk he hl hf hc ih => exact .ptrA k sz i off es e e' hT ((ho k hT).trans hk) he hl hf ih
  | agg cs ds hl hc ih => exact .agg cs ds hl ih
  | fn f as bs cs ds hl hl' hc hc' ih ih' => exact .fn f as bs cs ds hl hl' ih ih'
  | slA k sz i len es es' hT hk hl hl' hf hs hc ih => exact .slA k sz i len es es' hT ((ho k hT).trans hk) hl hl' hf hs ih

theorem CallS.frame {P : Program} {s s' : St} {m : Nat} {f : FuncId} {vs : List AV} {ev : Ev} (h : CallS P s m f vs ev) (ho : ∀ k, k ∈ ev.F → s'.ob k = s.ob k) : CallS P s' m f vs ev := by
  cases h with
  | mk args pre post res T h100 hc hl hf hn hp hpn hT hpost hz hnew =>
    have ho' : ∀ k, k ∈ T ++ keys pre → s'.ob k = s.ob k := ho
    exact .mk args pre post res T h100 hc hl (fun j v v' h1 h2 => (hf j v v' h1 h2).frame fun k hk => ho' k (List.mem_append.2 (.inl hk))) hn
      (fun k nd hk => (ho' k (List.mem_append.2 (.inr (mem_keys_of_lookup hk)))).trans (hp k nd hk)) hpn hT hpost hz hnew

def X.opds : X → List Opd
  | .slc3 _ x lo hi mx => x :: hi :: mx :: lo.toList
  | .aslc _ _ x lo hi => x :: (lo.toList ++ hi.toList)
  | .aidx _ _ x i => [x, i]
  | .mmn _ x xs => x :: xs
  | .mkmap => []
  | .mlook _ _ _ x k => [x, k]
  | .mupd _ x k v => [x, k, v]
  | .copy _ x y => [x, y]

def I.opds : I → List Opd
  | .mv x => [x]
  | .pick c a b => [c, a, b]
  | .load x _ _ => [x]
  | .fld x _ => [x]
  | .idx x i _ => [x, i]
  | .len _ x => [x]
  | .nilck x => [x]
  | .bin _ x y => [x, y]
  | .eqs _ _ _ x y => [x, y]
  | .eqnil _ x => [x]
  | .un _ x => [x]
  | .conv _ x => [x]
  | .ext x _ => [x]
  | .mkfn _ fs cs => fs ++ cs
  | .build _ ps => ps.map (·.2.2)
  | .slc _ x lo hi => x :: (lo.toList ++ hi.toList)
  | .sslc x lo hi => x :: (lo.toList ++ hi.toList)
  | .sidx x i => [x, i]
  | .store x y _ => [x, y]
  | .box x => [x]
  | .alloc _ => []
  | .bsl _ _ _ ps => ps.map (·.2.2)
  | .app x y _ _ => [x, y]
  | .mm _ x y => [x, y]
  | .mksl _ _ _ l c => [l, c]
  | .bad => []
  | .ex x => x.opds
  | .call _ xs => xs
  | .callv x xs => x :: xs

theorem buildV_frame {g g' : Opd → AV} : ∀ (ps : List (Nat × Nat × Opd)) (cs : List AV), (∀ x, x ∈ ps.map (·.2.2) → g' x = g x) → buildV g' cs ps = buildV g cs ps
  | [], _, _ => rfl
  | p :: ps, cs, h => by
    have h1 : g' p.2.2 = g p.2.2 := h _ (by simp)
    simp only [buildV, h1]
    split
    · exact buildV_frame ps _ fun x hx => h x (by simp only [List.map_cons, List.mem_cons]; exact .inr hx)
    · rfl
theorem boundOf_frame {g g' : Opd → AV} {d : Nat} {o : Option Opd} (h : ∀ x, x ∈ o.toList → g' x = g x) : boundOf g' d o = boundOf g d o := by
  cases o with
  | none => rfl
  | some x => simp [boundOf, h x (by simp)]
theorem slcV_frame {g g' : Opd → AV} {sz : Nat} {x : AV} {lo hi : Option Opd} (h1 : ∀ x, x ∈ lo.toList → g' x = g x) (h2 : ∀ x, x ∈ hi.toList → g' x = g x) : slcV g' sz x lo hi = slcV g sz x lo hi := by
  unfold slcV
  cases x <;> simp only [boundOf_frame h1, boundOf_frame h2]
theorem loadV_frame {ob ob' : Nat → Option Node} {sz : Nat} {ag : Bool} {x : AV} {ev : Ev} (h : loadV ob sz ag x = some ev) (ho : ∀ k, k ∈ ev.F → ob' k = ob k) : loadV ob' sz ag x = some ev := by
  cases x with
  | ptr k z i off =>
    have hk : k ∈ ev.F := by
      simp only [loadV] at h
      split at h <;> first | (cases h; done) | (split at h <;> first | (cases h; done) | (split at h <;> first | (cases h; done) | (split at h <;> first | (cases h; done) | (obtain ⟨v, _, rfl⟩ := Option.map_eq_some_iff.1 h; simp))))
    simp only [loadV, ho k hk] at h ⊢
    exact h
  | _ => exact h
theorem storeV_frame {ob ob' : Nat → Option Node} {sz : Nat} {x y : AV} {ev : Ev} (h : storeV ob sz x y = some ev) (ho : ∀ k, k ∈ ev.F → ob' k = ob k) : storeV ob' sz x y = some ev := by
  cases x with
  | ptr k z i off =>
    have hk : k ∈ ev.F := by
      simp only [storeV] at h
      split at h <;> first | (cases h; done) | (split at h <;> first | (cases h; done) | (split at h <;> first | (cases h; done) | (split at h <;> first | (cases h; done) | (injection h with h; subst h; simp))))
    simp only [storeV, ho k hk] at h ⊢
    exact h
  | _ => exact h
theorem srcV_frame {ob ob' : Nat → Option Node} {sz : Nat} {y : AV} {q : List (List AV) × List Nat} (h : srcV ob sz y = some q) (ho : ∀ k, k ∈ q.2 → ob' k = ob k) : srcV ob' sz y = some q := by
  cases y with
  | sl k z i len =>
    have hk : k ∈ q.2 := by
      simp only [srcV] at h
      split at h <;> first | (cases h; done) | (split at h <;> first | (cases h; done) | (injection h with h; subst h; simp))
    simp only [srcV, ho k hk] at h ⊢
    exact h
  | _ => exact h
theorem appV_frame {ob ob' : Nat → Option Node} {m sz bytes : Nat} {x y : AV} {ev : Ev} (h : appV ob m sz bytes x y = some ev) (ho : ∀ k, k ∈ ev.F → ob' k = ob k) : appV ob' m sz bytes x y = some ev := by
  unfold appV at h ⊢
  obtain ⟨q, hq, h⟩ := Option.bind_eq_some_iff.1 h
  have hF : ∀ k, k ∈ q.2 → k ∈ ev.F := by
    intro k hk
    cases x with
    | nils => simp only at h; split at h <;> first | (cases h; done) | (injection h with h; subst h; exact hk)
    | sl k' z i len => simp only at h; split at h <;> first | (cases h; done) | (split at h <;> first | (cases h; done) | (injection h with h; subst h; exact List.mem_cons_of_mem _ hk))
    | _ => cases h
  rw [srcV_frame hq fun k hk => ho k (hF k hk)]
  cases x with
  | nils => exact h
  | sl k' z i len =>
    have hk : k' ∈ ev.F := by
      simp only at h
      split at h <;> first | (cases h; done) | (split at h <;> first | (cases h; done) | (injection h with h; subst h; simp))
    simp only [Option.bind_some, ho k' hk]
    exact h
  | _ => cases h

theorem mmF_frame {mx : Bool} {g g' : Opd → AV} : ∀ (xs : List Opd) (v : AV), (∀ x, x ∈ xs → g' x = g x) → mmF mx g' v xs = mmF mx g v xs
  | [], _, _ => rfl
  | x :: xs, v, h => by
    simp only [mmF, h x (List.mem_cons_self ..)]
    congr 1
    funext u
    exact mmF_frame xs u fun y hy => h y (List.mem_cons_of_mem _ hy)

theorem X.eval_frame {o : X} {g g' : Opd → AV} {ob ob' : Nat → Option Node} {m : Nat} {ev : Ev} (h : o.eval g ob m = some ev) (hg : ∀ x, x ∈ o.opds → g' x = g x) (ho : ∀ k, k ∈ ev.F → ob' k = ob k) : o.eval g' ob' m = some ev := by
  cases o with
  | slc3 sz x lo hi mx =>
    have h1 : slcV g' sz (g x) lo (some hi) = slcV g sz (g x) lo (some hi) := slcV_frame (fun y hy => hg y (by simp only [X.opds, List.mem_cons]; exact .inr (.inr (.inr hy)))) (fun y hy => by
      have : y = hi := by simpa using hy
      subst this
      exact hg y (by simp [X.opds]))
    simpa only [X.eval, hg x (by simp [X.opds]), hg hi (by simp [X.opds]), hg mx (by simp [X.opds]), h1] using h
  | aslc n sz x lo hi =>
    have h1 : ∀ d, boundOf g' d lo = boundOf g d lo := fun d => boundOf_frame fun y hy => hg y (by simp only [X.opds, List.mem_cons, List.mem_append]; exact .inr (.inl hy))
    have h2 : ∀ d, boundOf g' d hi = boundOf g d hi := fun d => boundOf_frame fun y hy => hg y (by simp only [X.opds, List.mem_cons, List.mem_append]; exact .inr (.inr hy))
    simp only [X.eval, hg x (by simp [X.opds]), h1, h2] at h ⊢
    split at h
    · split at h
      · rename_i hc
        rw [if_pos hc]
        split at h
        · rename_i k z i off hx
          have hk : k ∈ ev.F := by
            split at h <;> first | (cases h; done) | (split at h <;> first | (cases h; done) | (injection h with h; subst h; simp))
          rw [ho k hk]
          exact h
        · cases h
      · cases h
    · cases h
  | aidx n sz x i => simpa only [X.eval, hg x (by simp [X.opds]), hg i (by simp [X.opds])] using h
  | mmn mx x xs => simpa only [X.eval, hg x (by simp [X.opds]), mmF_frame xs _ fun y hy => hg y (by simp [X.opds, hy])] using h
  | mkmap => exact h
  | mlook kd z comma x k =>
    simp only [X.eval, hg x (by simp [X.opds]), hg k (by simp [X.opds])] at h ⊢
    split at h
    · rename_i r hx
      have hk : r ∈ ev.F := by
        split at h <;> first | (cases h; done) | (split at h <;> first | (cases h; done) | (split at h <;> first | (cases h; done) | (injection h with h; subst h; simp)))
      rw [ho r hk]
      exact h
    · cases h
  | mupd kd x k v =>
    simp only [X.eval, hg x (by simp [X.opds]), hg k (by simp [X.opds]), hg v (by simp [X.opds])] at h ⊢
    split at h
    · rename_i r hx
      have hk : r ∈ ev.F := by
        split at h <;> first | (cases h; done) | (split at h <;> first | (cases h; done) | (split at h <;> first | (cases h; done) | (injection h with h; subst h; simp)))
      rw [ho r hk]
      exact h
    · cases h
  | copy sz x y =>
    simp only [X.eval, hg x (by simp [X.opds]), hg y (by simp [X.opds])] at h ⊢
    split at h
    · rename_i q hq
      have hF : (∀ k, k ∈ q.2 → k ∈ ev.F) ∧ ∀ k z i len, g x = .sl k z i len → k ∈ ev.F := by
        split at h
        · rename_i hx
          split at h
          · injection h with h; subst h
            exact ⟨fun k hk => hk, fun k' z' i' l' e => by rw [hx] at e; cases e⟩
          · cases h
        · rename_i k z i len hx
          have go : ∀ {v : AV} {U : List (Nat × Option Node)}, some (⟨v, k :: q.2, U, []⟩ : Ev) = some ev → (∀ k, k ∈ q.2 → k ∈ ev.F) ∧ ∀ k z i len, g x = .sl k z i len → k ∈ ev.F := fun h => by
            injection h with h; subst h
            exact ⟨fun k hk => List.mem_cons_of_mem _ hk, fun k' z' i' l' e => by rw [hx] at e; injection e with e1 e2 e3 e4; subst e1; exact List.mem_cons_self ..⟩
          split at h
          · exact go h
          · split at h
            · split at h <;> first | (cases h; done) | (split at h <;> first | (cases h; done) | exact go h)
            · cases h
        · cases h
      rw [srcV_frame hq fun k hk => ho k (hF.1 k hk)]
      simp only
      split at h
      · rename_i hx; exact h
      · rename_i k z i len hx
        rw [ho k (hF.2 k z i len hx)]
        exact h
      · cases h
    · cases h

theorem I.eval_frame {i : I} {g g' : Opd → AV} {ob ob' : Nat → Option Node} {m : Nat} {ev : Ev} (h : i.eval g ob m = some ev) (hg : ∀ x, x ∈ i.opds → g' x = g x) (ho : ∀ k, k ∈ ev.F → ob' k = ob k) : i.eval g' ob' m = some ev := by
  cases i with
  | mv x => simpa only [I.eval, hg x (by simp [I.opds])] using h
  | pick c a b => simpa only [I.eval, hg c (by simp [I.opds]), hg a (by simp [I.opds]), hg b (by simp [I.opds])] using h
  | load x sz ag => simp only [I.eval, hg x (by simp [I.opds])] at h ⊢; exact loadV_frame h ho
  | fld x off => simpa only [I.eval, hg x (by simp [I.opds])] using h
  | idx x i sz => simpa only [I.eval, hg x (by simp [I.opds]), hg i (by simp [I.opds])] using h
  | len str x => simpa only [I.eval, hg x (by simp [I.opds])] using h
  | nilck x => simpa only [I.eval, hg x (by simp [I.opds])] using h
  | bin op x y => simpa only [I.eval, hg x (by simp [I.opds]), hg y (by simp [I.opds])] using h
  | eqs neg ag ks x y => simpa only [I.eval, hg x (by simp [I.opds]), hg y (by simp [I.opds])] using h
  | eqnil neg x => simpa only [I.eval, hg x (by simp [I.opds])] using h
  | un op x => simpa only [I.eval, hg x (by simp [I.opds])] using h
  | conv k x => simpa only [I.eval, hg x (by simp [I.opds])] using h
  | ext x i => simpa only [I.eval, hg x (by simp [I.opds])] using h
  | mkfn f fs cs =>
    have h1 : fs.map g' = fs.map g := List.map_congr_left fun x hx => hg x (List.mem_append.2 (.inl hx))
    have h2 : cs.map g' = cs.map g := List.map_congr_left fun x hx => hg x (List.mem_append.2 (.inr hx))
    simpa only [I.eval, h1, h2] using h
  | build zs ps => simpa only [I.eval, buildV_frame ps _ hg] using h
  | slc sz x lo hi => simpa only [I.eval, hg x (by simp [I.opds]), slcV_frame (fun y hy => hg y (by simp only [I.opds, List.mem_cons, List.mem_append]; exact .inr (.inl hy))) (fun y hy => hg y (by simp only [I.opds, List.mem_cons, List.mem_append]; exact .inr (.inr hy)))] using h
  | sslc x lo hi =>
    have h1 : ∀ d, boundOf g' d lo = boundOf g d lo := fun d => boundOf_frame fun y hy => hg y (by simp only [I.opds, List.mem_cons, List.mem_append]; exact .inr (.inl hy))
    have h2 : ∀ d, boundOf g' d hi = boundOf g d hi := fun d => boundOf_frame fun y hy => hg y (by simp only [I.opds, List.mem_cons, List.mem_append]; exact .inr (.inr hy))
    simpa only [I.eval, hg x (by simp [I.opds]), h1, h2] using h
  | sidx x i => simpa only [I.eval, hg x (by simp [I.opds]), hg i (by simp [I.opds])] using h
  | store x y sz => simp only [I.eval, hg x (by simp [I.opds]), hg y (by simp [I.opds])] at h ⊢; exact storeV_frame h ho
  | box x => simpa only [I.eval, hg x (by simp [I.opds])] using h
  | alloc zs => exact h
  | bsl sz zs n ps => simpa only [I.eval, buildV_frame ps _ hg] using h
  | app x y sz bytes => simp only [I.eval, hg x (by simp [I.opds]), hg y (by simp [I.opds])] at h ⊢; exact appV_frame h ho
  | mm mx x y => simpa only [I.eval, hg x (by simp [I.opds]), hg y (by simp [I.opds])] using h
  | mksl sz zs by' l c => simpa only [I.eval, hg l (by simp [I.opds]), hg c (by simp [I.opds])] using h
  | bad => exact h
  | ex x => exact X.eval_frame h hg ho
  | call f xs => exact h
  | callv x xs => exact h

theorem OpS.frame {P : Program} {s s' : St} {m : Nat} {i : I} {ev : Ev} (h : OpS P s m i ev) (hg : ∀ x, x ∈ i.opds → s'.get x = s.get x) (ho : ∀ k, k ∈ ev.F → s'.ob k = s.ob k) : OpS P s' m i ev := by
  cases h with
  | op h => exact .op (h := I.eval_frame h hg ho)
  | @call f_ xs_ _ h =>
    refine .call ?_
    rw [List.map_congr_left (l := xs_) fun x hx => hg x hx]
    exact h.frame ho
  | @callv x_ xs_ f_ as_ cs_ _ hb hx h =>
    refine .callv hb ((hg _ (by simp [I.opds])).trans hx) ?_
    rw [List.map_congr_left (l := xs_) fun x hx => hg x (List.mem_cons_of_mem _ hx)]
    exact h.frame ho

/-! ### soundness -/
section
variable {P : Program} {N : Nat} {β : Places} {Z : Froz} {s : St} {a : Act} {w : World} {o : Oper}

theorem wp_of_fin {s' : St} (h : Fin P N o β Z s a w s') {K : Act → World → Prop} {Q : Exit → Act → World → Prop} (hK : ∀ a' w' β' Z', Rel N β' Z' s' a' w' → SExt β Z s w β' Z' s' w' → K a' w') : o.wp P a w K Q := by
  obtain ⟨nx, w', β', hrun, h1, h2⟩ := h
  unfold Oper.wp
  rw [hrun]
  rcases h1 with ⟨u, rfl, hr⟩ | ⟨rfl, hr⟩
  · exact hK _ _ _ _ hr h2
  · exact hK _ _ _ _ hr h2

theorem run_call_named {f : FuncId} {c : Call} (hop : o.op = .call c) (hcal : c.callee = .value (.func f)) (hf : ((P.funcs[f]?).map fun fn => fn.body.isSome && fn.name != "runtime.NumGoroutine") = some true) :
    (execOp a.eval o).run P w = .ok (.enter f (c.args.map a.eval)) w := by
  obtain ⟨fn, hfn, hb⟩ := Option.map_eq_some_iff.1 hf
  simp only [Bool.and_eq_true, bne_iff_ne, ne_eq] at hb
  have h2 : ¬ fn.body = none := by cases hx : fn.body <;> simp_all
  unfold execOp
  simp [hop, resolve, hcal, Deferred.ofValue, invoke, callFunc, hfn, hb.2, h2, Act.eval]

theorem run_call_value {f : FuncId} {c : Call} {x : Operand} {us vs : Array Value} (hop : o.op = .call c) (hcal : c.callee = .value x) (hx : a.eval x = .func (.func f) us vs) (hf : ((P.funcs[f]?).map fun fn => fn.body.isSome && fn.name != "runtime.NumGoroutine") = some true) :
    (execOp a.eval o).run P w = .ok (.enter f (us ++ c.args.map a.eval ++ vs)) w := by
  obtain ⟨fn, hfn, hb⟩ := Option.map_eq_some_iff.1 hf
  simp only [Bool.and_eq_true, bne_iff_ne, ne_eq] at hb
  have h2 : ¬ fn.body = none := by cases hx : fn.body <;> simp_all
  unfold execOp
  simp [hop, resolve, hcal, Deferred.ofValue, invoke, callFunc, hfn, hb.2, h2, hx]


theorem upon_calls {s' : St} {d : Option Nat} {f : FuncId} {vals : Array Value} (hrun : (execOp a.eval o).run P w = .ok (.enter f vals) w)
    (h : Calls P f vals w fun e w' => ∃ v, e = .returned v ∧ ∃ β' Z', Rel N β' Z' s' (a.put o.dst v) w' ∧ SExt β Z s w β' Z' s' w') {K : Act → World → Prop} {Q : Exit → Act → World → Prop}
    (hK : ∀ a' w' β' Z', Rel N β' Z' s' a' w' → SExt β Z s w β' Z' s' w' → K a' w') : o.wp P a w K Q := by
  unfold Oper.wp
  rw [hrun]
  refine h.mono ?_
  rintro e w' ⟨v, rfl, β', Z', h1, h2⟩
  exact hK _ _ _ _ h1 h2

theorem CallS.calls (r : Rel N β Z s a w) {m : Nat} {f : FuncId} {vs : List AV} {ev : Ev} (h : CallS P s m f vs ev) {vals : Array Value} (hv : Reps β Z w vs vals) (hnew : ∀ k, k ∈ ev.C → k ∉ s.nm) {d : Option Nat} (hd : ∀ x, d = some x → x < N) :
    Calls P f vals w fun e w' => ∃ v, e = .returned v ∧ ∃ β' Z', Rel N β' Z' (s.app d ev) (a.put d v) w' ∧ SExt β Z s w β' Z' (s.app d ev) w' := by
  cases h with
  | mk args pre post res T h100 hc hl hf hn hp hpn hT hpost hz hnew' =>
    rw [called_eq]
    exact call_sound r hc hv hl hf hn hp hpn hT hpost h100 hz (fun k hk => ⟨hnew k hk, hnew' k hk⟩) hd

theorem reps_append {as bs : List AV} {us vs : Array Value} (h1 : Reps β Z w as us) (h2 : Reps β Z w bs vs) : Reps β Z w (as ++ bs) (us ++ vs) := by
  refine ⟨by simp [h1.1, h2.1], fun j c hc => ?_⟩
  have hl := h1.1
  rw [List.getElem?_append] at hc
  simp only [Array.getD_eq_getD_getElem?, Array.getElem?_append]
  by_cases hj : j < as.length
  · rw [if_pos hj] at hc
    rw [if_pos (by omega)]
    simpa [Array.getD_eq_getD_getElem?] using h1.2 j c hc
  · rw [if_neg hj] at hc
    rw [if_neg (by omega)]
    have := h2.2 (j - as.length) c hc
    simpa [Array.getD_eq_getD_getElem?, hl] using this

theorem opds_reps (r : Rel N β Z s a w) {xs : Array Operand} {ys : List Opd} (h : cOpds xs.toList = some ys) : Reps β Z w (ys.map s.get) (xs.map a.eval) := by
  have := cOpds_rep r xs.toList ys h
  have e : ((xs.toList.map a.eval).toArray) = xs.map a.eval := by apply Array.toList_inj.1; simp
  rw [e] at this
  exact this

def I.isCall : I → Bool
  | .call .. | .callv .. => true
  | _ => false

def I.isNamed : I → Bool
  | .call .. => true
  | _ => false
def I.isVal : I → Bool
  | .callv .. => true
  | _ => false
def NC (p : I → Bool) (q : Option I) : Prop := ∀ i, q = some i → p i = false
section
variable {p : I → Bool}
theorem nc_none : NC p none := fun _ h => by cases h
theorem nc_some {i : I} (h : p i = false) : NC p (some i) := fun j e => by injection e with e; subst e; exact h
theorem nc_bind {α : Type} {q : Option α} {f : α → Option I} (h : ∀ x, NC p (f x)) : NC p (q.bind f) := fun i e => by
  obtain ⟨x, _, e⟩ := Option.bind_eq_some_iff.1 e
  exact h x i e
theorem nc_map {α : Type} {q : Option α} {f : α → I} (h : ∀ x, p (f x) = false) : NC p (q.map f) := fun i e => by
  obtain ⟨x, _, rfl⟩ := Option.map_eq_some_iff.1 e
  exact h x
theorem nc_ext {P : Program} {o : Oper} (hp : ∀ x, p (.ex x) = false) (hb : p .bad = false) : NC p (some (extI P o)) := fun i e => by
  injection e with e
  subst e
  unfold extI
  split
  · exact hp _
  · exact hb
theorem nc_ite {c : Prop} [Decidable c] {q r : Option I} (h : NC p q) (k : NC p r) : NC p (if c then q else r) := by split <;> assumption
end

theorem compEq_call {neg : Bool} {t : TypeId} {x y : Operand} : NC I.isCall (compEq P neg t x y) := by
  unfold compEq
  split <;> repeat (first | exact nc_none | refine nc_bind fun _ => ?_ | exact nc_map fun _ => rfl | exact nc_some rfl | exact nc_ext (fun _ => rfl) rfl | refine nc_ite ?_ ?_)

theorem compI_call {i : I} (h : compI P o = some i) (hi : i.isCall = true) : ∃ c, o.op = .call c ∧ compCall P c = some i := by
  by_cases hc : ∃ c, o.op = .call c
  · obtain ⟨c, ho⟩ := hc
    simp only [compI, ho] at h; exact ⟨c, ho, h⟩
  · have : NC I.isCall (compI P o) := by
      unfold compI
      split <;> first
        | exact (hc ⟨_, by assumption⟩).elim
        | exact compEq_call
        | repeat (first | exact nc_none | refine nc_bind fun _ => ?_ | exact nc_map fun _ => rfl | exact nc_some rfl | exact nc_ext (fun _ => rfl) rfl | refine nc_ite ?_ ?_ | split)
    rw [this i h] at hi
    cases hi

theorem compCall_call {c : Call} {f : FuncId} {xs : List Opd} (h : compCall P c = some (.call f xs)) : c.callee = .value (.func f) ∧ cOpds c.args.toList = some xs ∧ ((P.funcs[f]?).map fun fn => fn.body.isSome && fn.name != "runtime.NumGoroutine") = some true := by
  by_cases hc : ∃ g, c.callee = .value (.func g)
  · obtain ⟨g, hc⟩ := hc
    simp only [compCall, hc] at h
    split at h
    · rename_i hb
      obtain ⟨ys, h1, h2⟩ := Option.map_eq_some_iff.1 h
      injection h2 with h3 h4
      subst h3 h4
      exact ⟨hc, h1, hb⟩
    · cases h
  · have : NC I.isNamed (compCall P c) := by
      unfold compCall
      split
      · exact (hc ⟨_, by assumption⟩).elim
      all_goals repeat (first | exact nc_none | refine nc_bind fun _ => ?_ | exact nc_map fun _ => rfl | exact nc_some rfl | exact nc_ext (fun _ => rfl) rfl | refine nc_ite ?_ ?_ | split)
    exact absurd (this _ h) (by simp [I.isNamed])

theorem compCall_callv {c : Call} {x : Opd} {xs : List Opd} (h : compCall P c = some (.callv x xs)) : ∃ y, c.callee = .value y ∧ cOpd y = some x ∧ cOpds c.args.toList = some xs := by
  by_cases hc : ∃ y, c.callee = .value y ∧ ∀ g, y ≠ .func g
  · obtain ⟨y, hc, hy⟩ := hc
    unfold compCall at h
    split at h
    · rename_i hc'
      rw [hc] at hc'
      injection hc' with hc'
      exact absurd hc' (hy _)
    · rename_i y' _ hc'
      rw [hc] at hc'
      injection hc' with hc'
      subst hc'
      simp only [Option.bind_eq_some_iff, Option.map_eq_some_iff] at h
      obtain ⟨x', h1, ys, h2, h3⟩ := h
      injection h3 with h3 h4
      subst h3 h4
      exact ⟨y, hc, h1, h2⟩
    · rename_i hc'; rw [hc] at hc'; cases hc'
    · rename_i hc'; rw [hc] at hc'; cases hc'
    · rename_i hc'; rw [hc] at hc'; cases hc'
    · rename_i hc'; rw [hc] at hc'; cases hc'
    · rename_i hc'; rw [hc] at hc'; cases hc'
    · cases h
  · have : NC I.isVal (compCall P c) := by
      unfold compCall
      split
      · repeat (first | exact nc_none | refine nc_bind fun _ => ?_ | exact nc_map fun _ => rfl | exact nc_some rfl | exact nc_ext (fun _ => rfl) rfl | refine nc_ite ?_ ?_ | split)
      · exact (hc ⟨_, by assumption, by assumption⟩).elim
      all_goals repeat (first | exact nc_none | refine nc_bind fun _ => ?_ | exact nc_map fun _ => rfl | exact nc_some rfl | exact nc_ext (fun _ => rfl) rfl | refine nc_ite ?_ ?_ | split)
    exact absurd (this _ h) (by simp [I.isVal])

theorem OpS.sound (r : Rel N β Z s a w) (hd : ∀ x, o.dst = some x → x < N) {i : I} (h : compI P o = some i) {m : Nat} {ev : Ev} (hs : OpS P s m i ev) (hm : m ∉ s.nm) (hC : ∀ k, k ∈ ev.C → k ∉ s.nm) {K : Act → World → Prop} {Q : Exit → Act → World → Prop}
    (hK : ∀ a' w' β' Z', Rel N β' Z' (s.app o.dst ev) a' w' → SExt β Z s w β' Z' (s.app o.dst ev) w' → K a' w') : o.wp P a w K Q := by
  cases hs with
  | op he => exact wp_of_fin (eval_sound r hd h hm he) hK
  | @call f_ xs_ _ he =>
    obtain ⟨c, ho, hc⟩ := compI_call h rfl
    obtain ⟨h1, h2, h3⟩ := compCall_call hc
    exact upon_calls (d := o.dst) (run_call_named ho h1 h3) (he.calls r (opds_reps r h2) hC hd) hK
  | @callv x_ xs_ f_ as_ cs_ _ hb hx he =>
    obtain ⟨c, ho, hc⟩ := compI_call h rfl
    obtain ⟨y, h1, h2, h3⟩ := compCall_callv hc
    have hy := opd_rep r h2
    rw [hx] at hy
    have fin : ∀ us vs : Array Value, a.eval y = .func (.func f_) us vs → Reps β Z w as_ us → Reps β Z w cs_ vs → o.wp P a w K Q := fun us vs e1 e2 e3 =>
      upon_calls (d := o.dst) (run_call_value ho h1 e1 (hasBody_iff hb)) (he.calls r (reps_append (reps_append e2 (opds_reps r h3)) e3) hC hd) hK
    generalize a.eval y = u at hy fin
    cases hy with
    | fro hy => cases hy with
      | fn _ _ _ us vs l1 l2 c1 c2 => exact fin us vs rfl ⟨l1, fun j c hc => .fro (c1 j c hc)⟩ ⟨l2, fun j c hc => .fro (c2 j c hc)⟩
    | fn _ _ _ us vs l1 l2 c1 c2 => exact fin us vs rfl ⟨l1, c1⟩ ⟨l2, c2⟩

end
end Go.Proofs.YtbmlhmgldipnhabGreatE
