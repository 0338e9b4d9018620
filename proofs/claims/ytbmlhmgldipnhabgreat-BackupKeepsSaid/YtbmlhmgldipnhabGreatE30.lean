/-
  The engine, part 30: what the evaluator says is so: regions, calls of their own, code.
-/
import Derived.Test.YtbmlhmgldipnhabGreatE29
set_option linter.unusedVariables false
set_option linter.unnecessarySimpa false
set_option linter.unusedSimpArgs false
namespace Go.Proofs.YtbmlhmgldipnhabGreatE
open Go

section
variable {P : Program} {T : FT} {B : Nat → List AV → Option AV} {run : CI → CS → Option (Exit × CS)}

/-- A step of a region, where an operation with this guard is carried out. -/
theorem step_runs {N : Nat} {β : Places} {Z : Froz} {s : St} {a : Act} {w : World} {o : Oper} {ops : Array Oper} {it : It} (r : Rel N β Z s a w) (hg : cGuard N ops o.guard = some it.g) (hr : runs s it.g = some true) {X Y : Prop} (h : X) : if Region.wanted o (yielded ops a.tmps) then X else Y := by
  have key : Region.wanted o (yielded ops a.tmps) = true := by
    unfold runs at hr
    split at hr
    · rename_i hgn
      have : o.guard = none := by
        rw [hgn] at hg
        unfold cGuard at hg
        split at hg
        · assumption
        · obtain ⟨t', h1, h2⟩ := Option.bind_eq_some_iff.1 hg
          split at h2 <;> simp at h2
      simp only [Region.wanted, this]
    · rename_i t b hgs
      rw [hgs] at hg
      unfold cGuard at hg
      split at hg
      · simp at hg
      · rename_i j b' hgu
        obtain ⟨t', h1, h2⟩ := Option.bind_eq_some_iff.1 hg
        split at h2
        · rename_i hlt
          simp only [Option.some.injEq, Prod.mk.injEq] at h2
          obtain ⟨rfl, rfl⟩ := h2
          split at hr
          · rename_i c hc
            simp only [Option.some.injEq, beq_iff_eq] at hr
            subst hr
            have h3 := get_rep r t'
            rw [hc] at h3
            have h4 := rep_bool h3
            have h5 : yielded ops a.tmps j = some c := by
              unfold yielded
              rw [h1, Option.bind_some, Array.getD_eq_getD_getElem?] at *
              have : t' < a.tmps.size := by rw [r.size]; exact hlt
              rw [Array.getElem?_eq_getElem this] at *
              simp only [Option.getD_some] at h4 ⊢
              rw [h4]
            simp only [Region.wanted, hgu, h5, beq_self_eq_true]
          · cases hr
          · cases hr
        · cases h2
  rw [if_pos key]
  exact h

theorem callC_sound {N : Nat} {β : Places} {Z : Froz} {s s1 : CS} {st : St} {a : Act} {w : World} (hT : FTGood P T) (hB : BGood P B) (hrun : RunOK P run) (hl : Like s st) (r : Rel N β Z st a w) {f : Nat} {args : List AV} {vals : Array Value} (hv : Reps β Z w args vals) {d : Option Nat}
    (h : callC T B run f args s d = some s1) (hdN : ∀ x, d = some x → x < N) :
    Calls P f vals w fun e w' => ∃ v, e = .returned v ∧ ∃ s' β' Z', Like s1 s' ∧ Rel N β' Z' s' (a.put d v) w' ∧ SExt β Z st w β' Z' s' w' := by
  unfold callC at h
  split at h
  · rename_i v hb
    cases hc : (namess [] args && v.still) with
    | false => rw [hc] at h; cases h
    | true =>
      rw [hc] at h
      simp only [cond_true, Option.some.injEq] at h
      simp only [Bool.and_eq_true] at hc
      have hbd : ∀ n, bindR n v = (v, []) := still_bind hc.2
      have hk := call_sound (T := []) (n := 100) (d := d) r (hB f args v hb) hv rfl (fun j x x' h1 h2 => by rw [h1] at h2; injection h2 with h2; subst h2; exact .keep x) hc.1 (fun k nd h => by simp at h) (fun k nd h => by simp at h) (fun k h => by simp at h) (fun k h => by simp [keys] at h)
        (Nat.le_refl _) (.inl rfl) (fun k hk => by rw [hbd] at hk; simp [keys] at hk) hdN
      refine hk.mono ?_
      rintro e w' ⟨u, rfl, β', Z', h1, h2⟩
      refine ⟨u, rfl, _, β', Z', ?_, h1, h2⟩
      subst h
      refine ⟨?_, ?_, ?_, ?_, hl.low⟩
      · simp only [St.called, hbd, hl.env]
        cases d <;> simp [St.put, hl.env]
      · funext k
        rw [St.called_ob, hbd, hl.ob]
        simp [keys]
      · intro k hk
        simp only [St.called, hbd, keys, List.map_nil, List.nil_append] at hk
        exact hl.nm k hk
      · simp only [St.called, hbd, keys, List.map_nil, List.nil_append]
        exact hl.zero
  · split at h
    · rename_i fi hfi
      split at h
      · rename_i e s' hr
        cases hc : (doneC e && Nat.ble args.length fi.n) with
        | false => rw [hc] at h; cases h
        | true =>
          rw [hc] at h
          simp only [cond_true] at h
          simp only [Bool.and_eq_true] at hc
          split at h
          · rename_i vs hvs
            simp only [Option.some.injEq] at h
            subst h
            exact inl_calls hl r (hT f fi hfi) hv (by simpa using hc.2) (fun N st h => (hrun _ _ _ _ hr N st h).mono fun e' st' ⟨h1, h2⟩ => ⟨h1, st', Wk.refl _, h2⟩) hc.1 hvs hdN
          · split at h
            · rename_i vs hvs
              simp only [Option.some.injEq] at h
              subst h
              exact inl_calls (s1 := s'.res fi.ts) hl r (hT f fi hfi) hv (by simpa using hc.2) (fun N st h => (hrun _ _ _ _ hr N st h).mono fun e' st' ⟨h1, h2⟩ => ⟨h1, h2.resFix fi.ts⟩) hc.1 hvs hdN
            · cases h
      · cases h
    · cases h

theorem upon_callsE {N : Nat} {β : Places} {Z : Froz} {s1 : CS} {s : St} {a : Act} {w : World} {o : Oper} {f : FuncId} {vals : Array Value} (hrun : (execOp a.eval o).run P w = .ok (.enter f vals) w)
    (h : Calls P f vals w fun e w' => ∃ v, e = .returned v ∧ ∃ s' β' Z', Like s1 s' ∧ Rel N β' Z' s' (a.put o.dst v) w' ∧ SExt β Z s w β' Z' s' w') {K : Act → World → Prop} {Q : Exit → Act → World → Prop}
    (hK : ∀ s' a' w' β' Z', Like s1 s' → Rel N β' Z' s' a' w' → SExt β Z s w β' Z' s' w' → K a' w') : o.wp P a w K Q := by
  unfold Oper.wp
  rw [hrun]
  refine h.mono ?_
  rintro e w' ⟨v, rfl, s', β', Z', h0, h1, h2⟩
  exact hK _ _ _ _ _ h0 h1 h2

theorem eval_runM {s : St} {it : It} {ev : Ev} {m : Nat} (hr : runs s it.g = some true) (h : it.i.eval s.get s.ob m = some ev) (hm : m ∉ s.nm) : RunIt P s { it with m := m } ev :=
  runs_true (it := { it with m := m }) hr rfl (.op h) hm fun k hk => by rw [I.eval_C h k hk]; exact hm

/-- One operation, carried out by the evaluator. -/
theorem itemsC_sound (hT : FTGood P T) (hB : BGood P B) (hrun : RunOK P run) {N : Nat} {ops : Array Oper} {draw : Bool} {Q : Exit → Act → World → Prop} {s1 : CS} : ∀ (l : List Oper) (pre : List (List Nat)) (its : List It) {s : CS} {st : St} {β : Places} {Z : Froz} {a : Act} {w : World}, cIts P N ops draw pre l = some its → itemsC T B run its s = some s1 → Like s st → Rel N β Z st a w →
    (∀ s' a' w' β' Z', Like s1 s' → Rel N β' Z' s' a' w' → SExt β Z st w β' Z' s' w' → Q .normal a' w') → wpList P ops Q l a w
  | [], pre, its, s, st, β, Z, a, w, hc, h, hl, r, hQ => by
    simp only [cIts, Option.some.injEq] at hc
    subst hc
    simp only [itemsC, Option.some.injEq] at h
    subst h
    exact hQ st a w β Z hl r (SExt.refl ..)
  | o :: l, pre, its, s, st, β, Z, a, w, hc, h, hl, r, hQ => by
    obtain ⟨it, its', rfl, h1, h2, h3, h4, h5, _⟩ := cIts_cons hc
    have hruns := hl.runs it.g
    have next : ∀ {s2 : CS} {s' : St} {a' : Act} {w' : World} {β' : Places} {Z' : Froz}, itemsC T B run its' s2 = some s1 → Like s2 s' → Rel N β' Z' s' a' w' → SExt β Z st w β' Z' s' w' → wpList P ops Q l a' w' := fun h hl' r' e' =>
      itemsC_sound hT hB hrun l _ its' h5 h hl' r' fun s'' a'' w'' β'' Z'' k r'' e'' => hQ s'' a'' w'' β'' Z'' k r'' (e'.trans e'')
    refine wpList_step fun K' hK' => ?_
    unfold itemsC at h
    split at h
    · rename_i hr
      have hr' : runs st it.g = some true := by rw [hruns]; exact hr
      split at h
      · rename_i f xs hi
        split at h
        · rename_i s2 hs2
          refine step_runs r h2 hr' ?_
          rw [hi] at h1
          obtain ⟨c, ho, hc⟩ := compI_call h1 rfl
          obtain ⟨g1, g2, g3⟩ := compCall_call hc
          have hreps := opds_reps r g2
          rw [hl.get] at hreps
          rw [h3] at hs2
          exact upon_callsE (run_call_named ho g1 g3) (callC_sound hT hB hrun hl r hreps hs2 h4) fun s' a' w' β' Z' hl' r' e' => hK' _ _ (next h hl' r' e')
        · cases h
      · rename_i x xs hi
        split at h
        · rename_i f as cs hx
          cases hg : (T.get f).isSome with
          | false => rw [hg] at h; cases h
          | true =>
            rw [hg] at h
            simp only [cond_true] at h
            split at h
            · rename_i s2 hs2
              refine step_runs r h2 hr' ?_
              rw [hi] at h1
              obtain ⟨c, ho, hc⟩ := compI_call h1 rfl
              obtain ⟨y, g1, g2, g3⟩ := compCall_callv hc
              have hreps := opds_reps r g3
              rw [hl.get] at hreps
              rw [h3] at hs2
              obtain ⟨fi, hfi⟩ := Option.isSome_iff_exists.1 hg
              obtain ⟨_, _, _, _, _, _, hb⟩ := hT f fi hfi
              have hy := opd_rep r g2
              rw [hl.get, hx] at hy
              have fin : ∀ us vs : Array Value, a.eval y = .func (.func f) us vs → Reps β Z w as us → Reps β Z w cs vs → o.wp P a w K' Q := fun us vs e1 e2 e3 =>
                upon_callsE (run_call_value ho g1 e1 (hasBody_iff hb)) (callC_sound hT hB hrun hl r (reps_append (reps_append e2 hreps) e3) hs2 h4) fun s' a' w' β' Z' hl' r' e' => hK' _ _ (next h hl' r' e')
              generalize a.eval y = u at hy fin
              cases hy with
              | fro hy => cases hy with
                | fn _ _ _ us vs l1 l2 c1 c2 => exact fin us vs rfl ⟨l1, fun j c hc => .fro (c1 j c hc)⟩ ⟨l2, fun j c hc => .fro (c2 j c hc)⟩
              | fn _ _ _ us vs l1 l2 c1 c2 => exact fin us vs rfl ⟨l1, c1⟩ ⟨l2, c2⟩
            · cases h
        · cases h
      · split at h
        · rename_i ev hev
          rw [← hl.get, ← hl.ob] at hev
          have hm : s.nx ∉ st.nm := fun hk => Nat.lt_irrefl _ (hl.nm _ hk)
          exact RunIt.sound (it := { it with m := s.nx }) r h4 h1 h2 h3 (eval_runM hr' hev hm) fun a' w' β' Z' r' e' => hK' _ _ (next h (hl.app fun k hk => I.eval_C hev k hk) r' e')
        · split at h
          · rename_i ev hev
            obtain ⟨st2, hwk, hl2⟩ := hl.fixVs (it.i.opds.map s.get)
            obtain ⟨β2, Z2, r2, e2⟩ := hwk _ _ _ _ _ r
            have hl2 : Like (s.fix it.i) st2 := hl2
            have hget : (s.fix it.i).get = s.get := by funext x; cases x <;> rfl
            rw [← hget, ← hl2.get, ← hl2.ob] at hev
            have hm : s.nx ∉ st2.nm := fun hk => Nat.lt_irrefl _ (hl2.nm _ hk)
            have hr2 : runs st2 it.g = some true := by rw [hl2.runs]; exact hr
            exact RunIt.sound (it := { it with m := s.nx }) r2 h4 h1 h2 h3 (eval_runM hr2 hev hm) fun a' w' β' Z' r' e' => hK' _ _ (next h (hl2.app fun k hk => I.eval_C hev k hk) r' (e2.trans e'))
          · split at h
            · rename_i ev hev
              obtain ⟨st1, hwk1, hl1⟩ := hl.fixVs (it.i.opds.map s.get)
              have hl1 : Like (s.fix it.i) st1 := hl1
              obtain ⟨st2, hwk2, hl2⟩ := hl1.anyVs (it.i.opds.map (s.fix it.i).get)
              have hl2 : Like ((s.fix it.i).any it.i) st2 := hl2
              obtain ⟨β2, Z2, r2, e2⟩ := (hwk1.trans hwk2) _ _ _ _ _ r
              have hget : ((s.fix it.i).any it.i).get = s.get := by funext x; cases x <;> rfl
              rw [← hget, ← hl2.get, ← hl2.ob] at hev
              have hm : s.nx ∉ st2.nm := fun hk => Nat.lt_irrefl _ (hl2.nm _ hk)
              have hr2 : runs st2 it.g = some true := by rw [hl2.runs]; exact hr
              exact RunIt.sound (it := { it with m := s.nx }) r2 h4 h1 h2 h3 (eval_runM hr2 hev hm) fun a' w' β' Z' r' e' => hK' _ _ (next h (hl2.app fun k hk => I.eval_C hev k hk) r' (e2.trans e'))
            · cases h
    · rename_i hr
      have hr' : runs st it.g = some false := by rw [hruns]; exact hr
      exact RunIt.sound r h4 h1 h2 h3 (runs_false hr') fun a' w' β' Z' r' e' => hK' _ _ (next h (hl.app fun k hk => by simp [skipEv] at hk) r' e')
    · cases h

/-- One operation, carried out by the evaluator. -/
theorem itemC_sound (hT : FTGood P T) (hB : BGood P B) (hrun : RunOK P run) {N : Nat} {ops : Array Oper} {Q : Exit → Act → World → Prop} {s1 : CS} {o : Oper} {it : It} {s : CS} {st : St} {β : Places} {Z : Froz} {a : Act} {w : World} (h1 : compI P o = some it.i) (h2 : cGuard N ops o.guard = some it.g) (h3 : it.d = o.dst) (h4 : ∀ d, o.dst = some d → d < N)
    (h : itemsC T B run [it] s = some s1) (hl : Like s st) (r : Rel N β Z st a w) {K' : Act → World → Prop} (hK : ∀ s' a' w' β' Z', Like s1 s' → Rel N β' Z' s' a' w' → SExt β Z st w β' Z' s' w' → K' a' w') : if Region.wanted o (yielded ops a.tmps) then o.wp P a w K' Q else K' (a.put o.dst undef) w := by
    have hruns := hl.runs it.g
    have next : ∀ {s2 : CS} {s' : St} {a' : Act} {w' : World} {β' : Places} {Z' : Froz}, itemsC T B run [] s2 = some s1 → Like s2 s' → Rel N β' Z' s' a' w' → SExt β Z st w β' Z' s' w' → K' a' w' := fun h hl' r' e' => by
      simp only [itemsC, Option.some.injEq] at h
      subst h
      exact hK _ _ _ _ _ hl' r' e'
    unfold itemsC at h
    split at h
    · rename_i hr
      have hr' : runs st it.g = some true := by rw [hruns]; exact hr
      split at h
      · rename_i f xs hi
        split at h
        · rename_i s2 hs2
          refine step_runs r h2 hr' ?_
          rw [hi] at h1
          obtain ⟨c, ho, hc⟩ := compI_call h1 rfl
          obtain ⟨g1, g2, g3⟩ := compCall_call hc
          have hreps := opds_reps r g2
          rw [hl.get] at hreps
          rw [h3] at hs2
          exact upon_callsE (run_call_named ho g1 g3) (callC_sound hT hB hrun hl r hreps hs2 h4) fun s' a' w' β' Z' hl' r' e' => (next h hl' r' e')
        · cases h
      · rename_i x xs hi
        split at h
        · rename_i f as cs hx
          cases hg : (T.get f).isSome with
          | false => rw [hg] at h; cases h
          | true =>
            rw [hg] at h
            simp only [cond_true] at h
            split at h
            · rename_i s2 hs2
              refine step_runs r h2 hr' ?_
              rw [hi] at h1
              obtain ⟨c, ho, hc⟩ := compI_call h1 rfl
              obtain ⟨y, g1, g2, g3⟩ := compCall_callv hc
              have hreps := opds_reps r g3
              rw [hl.get] at hreps
              rw [h3] at hs2
              obtain ⟨fi, hfi⟩ := Option.isSome_iff_exists.1 hg
              obtain ⟨_, _, _, _, _, _, hb⟩ := hT f fi hfi
              have hy := opd_rep r g2
              rw [hl.get, hx] at hy
              have fin : ∀ us vs : Array Value, a.eval y = .func (.func f) us vs → Reps β Z w as us → Reps β Z w cs vs → o.wp P a w K' Q := fun us vs e1 e2 e3 =>
                upon_callsE (run_call_value ho g1 e1 (hasBody_iff hb)) (callC_sound hT hB hrun hl r (reps_append (reps_append e2 hreps) e3) hs2 h4) fun s' a' w' β' Z' hl' r' e' => (next h hl' r' e')
              generalize a.eval y = u at hy fin
              cases hy with
              | fro hy => cases hy with
                | fn _ _ _ us vs l1 l2 c1 c2 => exact fin us vs rfl ⟨l1, fun j c hc => .fro (c1 j c hc)⟩ ⟨l2, fun j c hc => .fro (c2 j c hc)⟩
              | fn _ _ _ us vs l1 l2 c1 c2 => exact fin us vs rfl ⟨l1, c1⟩ ⟨l2, c2⟩
            · cases h
        · cases h
      · split at h
        · rename_i ev hev
          rw [← hl.get, ← hl.ob] at hev
          have hm : s.nx ∉ st.nm := fun hk => Nat.lt_irrefl _ (hl.nm _ hk)
          exact RunIt.sound (it := { it with m := s.nx }) r h4 h1 h2 h3 (eval_runM hr' hev hm) fun a' w' β' Z' r' e' => (next h (hl.app fun k hk => I.eval_C hev k hk) r' e')
        · split at h
          · rename_i ev hev
            obtain ⟨st2, hwk, hl2⟩ := hl.fixVs (it.i.opds.map s.get)
            obtain ⟨β2, Z2, r2, e2⟩ := hwk _ _ _ _ _ r
            have hl2 : Like (s.fix it.i) st2 := hl2
            have hget : (s.fix it.i).get = s.get := by funext x; cases x <;> rfl
            rw [← hget, ← hl2.get, ← hl2.ob] at hev
            have hm : s.nx ∉ st2.nm := fun hk => Nat.lt_irrefl _ (hl2.nm _ hk)
            have hr2 : runs st2 it.g = some true := by rw [hl2.runs]; exact hr
            exact RunIt.sound (it := { it with m := s.nx }) r2 h4 h1 h2 h3 (eval_runM hr2 hev hm) fun a' w' β' Z' r' e' => (next h (hl2.app fun k hk => I.eval_C hev k hk) r' (e2.trans e'))
          · split at h
            · rename_i ev hev
              obtain ⟨st1, hwk1, hl1⟩ := hl.fixVs (it.i.opds.map s.get)
              have hl1 : Like (s.fix it.i) st1 := hl1
              obtain ⟨st2, hwk2, hl2⟩ := hl1.anyVs (it.i.opds.map (s.fix it.i).get)
              have hl2 : Like ((s.fix it.i).any it.i) st2 := hl2
              obtain ⟨β2, Z2, r2, e2⟩ := (hwk1.trans hwk2) _ _ _ _ _ r
              have hget : ((s.fix it.i).any it.i).get = s.get := by funext x; cases x <;> rfl
              rw [← hget, ← hl2.get, ← hl2.ob] at hev
              have hm : s.nx ∉ st2.nm := fun hk => Nat.lt_irrefl _ (hl2.nm _ hk)
              have hr2 : runs st2 it.g = some true := by rw [hl2.runs]; exact hr
              exact RunIt.sound (it := { it with m := s.nx }) r2 h4 h1 h2 h3 (eval_runM hr2 hev hm) fun a' w' β' Z' r' e' => (next h (hl2.app fun k hk => I.eval_C hev k hk) r' (e2.trans e'))
            · cases h
    · rename_i hr
      have hr' : runs st it.g = some false := by rw [hruns]; exact hr
      exact RunIt.sound r h4 h1 h2 h3 (runs_false hr') fun a' w' β' Z' r' e' => (next h (hl.app fun k hk => by simp [skipEv] at hk) r' e')
    · cases h

/-! ### calls of their own -/
theorem fzA_eq' {ob ob' : Nat → Option Node} {L : List Nat} (h1 : ∀ k, k ∈ L → ob' k = ob k) (h2 : ∀ k, k ∉ L → ob' k = none) : ∀ (n : Nat) (v : AV), fzA ob' n v = fzV ob L n v
  | 0, v => rfl
  | n + 1, v => by
    have ih : fzA ob' n = fzV ob L n := funext (fzA_eq' h1 h2 n)
    cases v with
    | sl k sz i len =>
      simp only [fzA, fzV, ih]
      by_cases hk : k ∈ L
      · rw [h1 k hk, show L.contains k = true by simpa using hk]; rfl
      · rw [h2 k hk, show L.contains k = false by simpa using hk]; rfl
    | ptr k sz i off =>
      simp only [fzA, fzV, ih]
      by_cases hk : k ∈ L
      · rw [h1 k hk, show L.contains k = true by simpa using hk]; rfl
      · rw [h2 k hk, show L.contains k = false by simpa using hk]; rfl
    | agg cs => simp only [fzA, fzV, ih]
    | fn f a b => simp only [fzA, fzV, ih]
    | _ => rfl
theorem fzA_eq {ob : Nat → Option Node} {L : List Nat} (hL : ∀ k nd, ob k = some nd → k ∈ L) (n : Nat) (v : AV) : fzA ob n v = fzV ob L n v :=
  fzA_eq' (fun _ _ => rfl) (fun k hk => by
    cases h : ob k with
    | none => rfl
    | some nd => exact absurd (hL k nd h) hk) n v

/-- A result of a call of its own. -/
def AV.out : AV → Prop
  | .own sz es => es.all (·.all AV.plain) = true
  | v => v.still = true
theorem still_out {r : AV} (h : r.still = true) : r.out := by
  cases r with
  | own sz es => cases h
  | _ => exact h
theorem out_bind {r : AV} (h : r.out) (n : Nat) : (∀ k, k ∈ keys (bindR n r).2 → k = n) ∧ keys (bindR n r).2 = (callEv n r [] [] []).C := by
  refine ⟨fun k hk => ?_, rfl⟩
  cases r with
  | own sz es => simp [bindR, bind1, bind0, keys] at hk; exact hk
  | _ => first
      | (rw [still_bind (show AV.still _ = true from h)] at hk; simp [keys] at hk)

theorem ownC_out {s' : CS} {ts : List RS} {r : AV} (h : ownC s' ts = some r) : r.out := by
  unfold ownC at h
  split at h
  · split at h
    · split at h
      · split at h
        · rename_i hc; injection h with h; subst h; exact hc.2.2
        · cases h
      · split at h
        · rename_i hc; injection h with h; subst h; exact hc.2.2
        · cases h
      · cases h
    · cases h
  · cases h

theorem ownC_sound {s' : CS} {st' : St} (hL : Like s' st') {ts : List RS} {r : AV} (h : ownC s' ts = some r) : r.out ∧ ∃ s'' own, Wk st' s'' ∧ Ends s'' ts r [] [] own := by
  unfold ownC at h
  split at h
  · rename_i t
    split at h
    · rename_i k sz len hv
      have hget : st'.get (.t t) = .sl k sz 0 len := by rw [hL.get]; exact hv
      have hlk : st'.env.lookup t = some (.sl k sz 0 len) := by
        have : (st'.env.lookup t).getD .dead = .sl k sz 0 len := hget
        cases hx : st'.env.lookup t with
        | none => rw [hx] at this; cases this
        | some x => rw [hx] at this; simp at this; rw [this]
      split at h
      · rename_i z es hnd
        split at h
        · rename_i hc
          obtain ⟨rfl, rfl, hp⟩ := hc
          injection h with h
          subst h
          exact ⟨hp, st', _, Wk.refl st', Ends.own hget (by rw [hL.ob]; exact hnd) hp trivial (by simp [okKeys, keys]) (by simp [keys])⟩
        · cases h
      · rename_i z es hnd
        split at h
        · rename_i hc
          obtain ⟨rfl, rfl, hp⟩ := hc
          injection h with h
          subst h
          refine ⟨hp, ?_⟩
          let L := (st'.obs.map (·.1)).filter fun j => !Nat.beq j k
          have hb : ∀ j, Nat.beq j k = decide (j = k) := fun j => by rw [Bool.eq_iff_iff]; simp
          have hkL : k ∉ L := fun hk => by
            have := (List.mem_filter.1 hk).2
            simp [hb] at this
          have hfz : ∀ v, fzA (fun j => bif Nat.beq j k then none else s'.tr.get j) 12 v = fzV st'.ob L 12 v := fun v => fzA_eq' (fun j hj => by
              have := (List.mem_filter.1 hj).2
              simp only [hb] at this ⊢
              have hjk : j ≠ k := by simpa using this
              simp [hjk, hL.ob]) (fun j hj => by
              simp only [hb]
              by_cases hjk : j = k
              · simp [hjk]
              · simp only [hjk, decide_false, cond_false, ← hL.ob]
                cases hx : st'.ob j with
                | none => rfl
                | some nd =>
                  exfalso
                  refine hj (List.mem_filter.2 ⟨?_, by simp [hb, hjk]⟩)
                  unfold St.ob at hx
                  cases hx' : st'.obs.lookup j with
                  | none => rw [hx'] at hx; cases hx
                  | some x => exact List.mem_map.2 ⟨_, mem_of_lookup hx', rfl⟩) 12 v
          have hes : (es.map (·.map (fzA (fun j => bif Nat.beq j k then none else s'.tr.get j) 12))) = es.map fun e => e.map (fzV st'.ob L 12) := List.map_congr_left fun e _ => List.map_congr_left fun v _ => hfz v
          rw [hes] at hp ⊢
          have hfr : (es.map fun e => e.map (fzV st'.ob L 12)).all (fun e => frees e) = true := by
            rw [List.all_eq_true]
            intro e he
            have h1 := List.all_eq_true.1 hp e he
            have : ∀ l : List AV, l.all AV.plain = true → frees l = true := by
              intro l
              induction l with
              | nil => intro _; rfl
              | cons c l ih =>
                intro h
                simp only [List.all_cons, Bool.and_eq_true] at h
                have := h.1
                simp only [AV.plain, Bool.and_eq_true] at this
                simp [frees, this.2, ih h.2]
            exact this e h1
          have hg2 : (st'.fz L 12).get (.t t) = .sl k z 0 (es.map fun e => e.map (fzV st'.ob L 12)).length := by
            show ((st'.env.map fun p => (p.1, fzV st'.ob L 12 p.2)).lookup t).getD .dead = _
            rw [lookup_map_ren, hlk]
            simp only [Option.map_some, Option.getD_some, fzV, show L.contains k = false by simpa using hkL, Bool.false_eq_true, if_false, List.length_map]
          have ho2 : (st'.fz L 12).ob k = some (.row z (es.map fun e => e.map (fzV st'.ob L 12))) := by
            unfold St.ob St.fz
            simp only [lookup_append, lookup_nones, lookup_map_node, hkL, if_false, Option.none_or]
            have : st'.ob k = some (.arow z es) := by rw [hL.ob]; exact hnd
            unfold St.ob at this
            cases hx : st'.obs.lookup k with
            | none => rw [hx] at this; cases this
            | some x =>
              rw [hx] at this
              simp only [Option.getD_some] at this
              subst this
              simp only [Option.map_some, Option.getD_some]
              show some (fzN st'.ob L 12 (.arow z es)) = _
              simp only [fzN, hfr, if_true]
              rfl
          exact ⟨st'.fz L 12, _, Wk.fz st' L 12, Ends.own hg2 ho2 hp trivial (by simp [okKeys, keys]) (by simp [keys])⟩
        · cases h
      · cases h
    · cases h
  · cases h

theorem pcallC_sound (hT : FTGood P T) (hB : BGood P B) (hrun : RunOK P run) {f : Nat} {args : List AV} {r : AV} (h : pcallC T B run f args = some r) : PCall P f args r ∧ r.out := by
  unfold pcallC at h
  split at h
  · rename_i v hb
    cases hs : v.still with
    | false => rw [hs] at h; cases h
    | true =>
      rw [hs] at h
      simp only [cond_true, Option.some.injEq] at h
      subst h
      exact ⟨hB f args _ hb, still_out hs⟩
  · split at h
    · rename_i fi hfi
      split at h
      · rename_i e s0' hr
        cases hc : (doneC e && Nat.ble args.length fi.n) with
        | false => rw [hc] at h; cases h
        | true =>
          rw [hc] at h
          simp only [cond_true] at h
          simp only [Bool.and_eq_true] at hc
          obtain ⟨fn, hh, hf, hcf, hts, hfn, _⟩ := hT f fi hfi
          have hlen : args.length ≤ fn.ntmps := by rw [← hfn]; simpa using hc.2
          let st0 : St := { env := argEnv 0 args, obs := [], nm := [0] }
          have hl0 : Like ⟨argEnv 0 args, .lf, 100⟩ st0 := ⟨rfl, by funext k; rfl, fun k hk => by simp [st0] at hk; subst hk; show 0 < 100; decide, by simp [st0], Nat.le_refl _⟩
          have haw := AW.weak (s := entry args []) (s1 := st0) (nm_zero_wk rfl rfl fun k hk => by simp [entry, stOf, keys] at hk) (hrun _ _ _ _ hr fn.ntmps st0 hl0)
          split at h
          · rename_i r' hown
            injection h with h
            subst h
            have key : ∀ st00, Like s0' st00 → r'.out ∧ ∃ s'' own, Wk st00 s'' ∧ Ends s'' fi.ts r' [] [] own := fun st00 hL0 => by
              obtain ⟨st', hwk, hL⟩ := hL0.resFix fi.ts
              obtain ⟨h1, s'', own, h2, h3⟩ := ownC_sound hL hown
              exact ⟨h1, s'', own, hwk.trans h2, h3⟩
            have hout : r'.out := ownC_out hown
            exact ⟨LCall.of_body hf hcf hts hlen (haw.mono fun e' st00 ⟨he, hL0⟩ => ⟨by subst he; exact doneC_or hc.1, (key st00 hL0).2⟩), hout⟩
          · split at h
            · rename_i vs hvs
              cases hs : (tupOf vs).still with
              | false => rw [hs] at h; cases h
              | true =>
                rw [hs] at h
                simp only [cond_true, Option.some.injEq] at h
                subst h
                refine ⟨?_, still_out hs⟩
                refine LCall.of_body hf hcf hts hlen (haw.mono fun e' st00 ⟨he, hL0⟩ => ?_)
                subst he
                obtain ⟨st', hwk, hL⟩ := hL0.resFix fi.ts
                generalize hs' : s0'.res fi.ts = s' at hL hvs
                let L := st'.obs.map (·.1)
                have hLk : ∀ k nd, st'.ob k = some nd → k ∈ L := fun k nd hk => by
                  unfold St.ob at hk
                  cases hx : st'.obs.lookup k with
                  | none => rw [hx] at hk; cases hk
                  | some x => exact List.mem_map.2 ⟨_, mem_of_lookup hx, rfl⟩
                have henv : (st'.fz L 12).env = s'.env.map fun p => (p.1, fzA s'.tr.get 12 p.2) := by
                  show (st'.env.map fun p => (p.1, fzV st'.ob L 12 p.2)) = _
                  rw [hL.env]
                  refine List.map_congr_left fun p _ => ?_
                  rw [← hL.ob, fzA_eq hLk]
                have hob : (st'.fz L 12).ob = fun _ => none := by
                  funext k
                  unfold St.ob St.fz
                  simp only [lookup_append, lookup_nones, lookup_map_node]
                  by_cases hk : k ∈ L
                  · simp [hk]
                  · simp only [hk, if_false, Option.none_or]
                    cases hx : st'.obs.lookup k with
                    | none => rfl
                    | some x => exact absurd (List.mem_map.2 ⟨_, mem_of_lookup hx, rfl⟩) hk
                obtain ⟨hok, hmap⟩ := cvRess_ok henv hob fi.ts vs hvs
                exact ⟨doneC_or hc.1, st'.fz L 12, [], hwk.trans (Wk.fz st' L 12), Ends.still hok (by rw [resV_tup, hmap]) hs trivial (by simp [okKeys, keys])⟩
            · cases h
      · cases h
    · cases h

theorem tr_get_eq {tr : Tr} {f : Nat → Option Node} (h : ∀ k, tr.get k = f k) : tr.get = f := funext h

/-- A call that is handed objects, by the evaluator. -/
theorem lcall_sound {f : Nat} {fn : Func} {hh : Nat → List Nat} {ci : CI} {ts : List RS} (hf : P.funcs[f]? = some fn) (hcf : compF P hh fn = some ci) (hts : resTs P fn = some ts) {args : List AV} (hn : args.length ≤ fn.ntmps) {pre post : List (Nat × Node)} {tr0 : Tr} {nx : Nat} (htr : ∀ k, tr0.get k = pre.lookup k) (hnx : ∀ k, k ∈ keys pre → k < nx) (h100 : 100 ≤ nx) {e : Exit} {s' : CS}
    (haw : ∀ N st, Like ⟨argEnv 0 args, tr0, nx⟩ st → AW P N ci st fun e' st' => e' = e ∧ Like s' st') (hd : doneC e = true) {vs : List AV} (hvs : cvRess s'.tr.get s'.env ts = some vs) (hst : (tupOf vs).still = true) (hpost : ∀ k nd, post.lookup k = some nd → s'.tr.get k = some nd ∧ nd.isRow = true) (hpk : ∀ k, k ∈ keys post → k ∈ keys pre) : LCall P f args pre (tupOf vs) post := by
  obtain ⟨code, hb, hc⟩ := Option.bind_eq_some_iff.1 hcf
  intro β Z w vals hob hv
  refine calls_of_wp hf hb ?_
  let st0 : St := { env := argEnv 0 args, obs := pre.map fun p => (p.1, some p.2), nm := 0 :: keys pre }
  have hob0 : st0.ob = (stOf pre).ob := rfl
  have hl0 : Like ⟨argEnv 0 args, tr0, nx⟩ st0 := ⟨rfl, by funext k; rw [hob0, stOf_ob, htr], fun k hk => by
    rcases List.mem_cons.1 hk with rfl | hk
    · show 0 < nx; omega
    · exact hnx k hk, List.mem_cons_self .., h100⟩
  have hr0 : Rel fn.ntmps β Z st0 { tmps := vals ++ Array.replicate (fn.ntmps - vals.size) undef, defers := [] } w := by
    refine ⟨hob.same (fun k nd hk => hk) (fun k hk => List.mem_cons_of_mem _ hk), fun t v ht => ?_, by have := hv.1; simp; omega, rfl⟩
    obtain ⟨_, h1⟩ := argEnv_lookup args 0 t v ht
    have h2 := hv.2 t v (by simpa using h1)
    have hlt : t < vals.size := by have := (List.getElem?_eq_some_iff.1 h1).1; have := hv.1; omega
    have e : (vals ++ Array.replicate (fn.ntmps - vals.size) undef).getD t undef = vals.getD t undef := by
      simp only [Array.getD_eq_getD_getElem?, Array.getElem?_append, hlt, if_true]
    rw [e]
    exact h2
  refine wp_mono (haw fn.ntmps st0 hl0 hh code hc β Z _ w hr0) fun e' a' w' ⟨st', β', Z', ⟨hq, hL⟩, r', e''⟩ => ?_
  subst hq
  obtain ⟨hok, hmap⟩ := cvRess_ok hL.env hL.ob ts vs hvs
  obtain ⟨v, hv1, hv2⟩ := rep_resV (P := P) r' hts hok
  rw [resV_tup, hmap] at hv2
  have hpre : ∀ k, k ∈ keys pre → β' k = β k := fun k hk => (e''.low k (.inr (List.mem_cons_self ..)) (List.mem_cons_of_mem _ hk)).1
  have hbd : ∀ n, bindR n (tupOf vs) = (tupOf vs, []) := still_bind hst
  have fin : a'.defers = [] ∧ ∃ v, (results fn a'.tmps).run P w' = .ok v w' ∧ ∃ v', Ending.returned v = .returned v' ∧ ∀ n, 100 ≤ n → (∀ k, k ∈ keys pre → k ∉ keys (bindR n (tupOf vs)).2) →
      ∃ β' Z', CRep β' Z' w' (bindR n (tupOf vs)).1 v' ∧ Objs β' Z' (stFin pre (bindR n (tupOf vs)).2 post) w' ∧ SExt β Z (stOf pre) w β' Z' (stFin pre (bindR n (tupOf vs)).2 post) w' ∧ ∀ k, k ∈ keys pre → β' k = β k := by
    refine ⟨r'.defers, v, hv1, v, rfl, fun n _ _ => ?_⟩
    rw [hbd]
    let β'' : Places := fun k => if k ∈ keys pre then β' k else none
    have hin : ∀ k, k ∈ keys pre → β'' k = β' k := fun k hk => if_pos hk
    have hsub : ∀ k p, β'' k = some p → k ∈ keys pre ∧ β' k = some p := fun k p h => by
      by_cases e : k ∈ keys pre
      · exact ⟨e, by rwa [hin k e] at h⟩
      · simp [β'', e] at h
    have hpo : ∀ k nd, (stFin pre [] post).ob k = some nd → k ∈ keys pre ∧ st'.ob k = some nd ∧ nd.isRow = true := fun k nd h => by
      rw [stFin_ob] at h
      simp only [List.nil_append] at h
      exact ⟨hpk k (mem_keys_of_lookup h), by rw [hL.ob]; exact (hpost k nd h).1, (hpost k nd h).2⟩
    refine ⟨β'', Z', hv2.named (l := []) (fun k hk => by simp at hk) (still_names hst []), ⟨fun k nd hk => ?_, fun k k' nd nd' b o o' g1 g2 g3 g4 => ?_, r'.froz, fun k b o hk => r'.dom _ _ _ (hsub k _ hk).2, fun k p hk => ?_⟩, ⟨e''.os, e''.tape, e''.output, e''.size, e''.keeps, e''.frame, e''.frz, fun b hb' ⟨k, nd, o, g1, g2⟩ => ?_, fun k _ hk => ⟨(hin k hk).trans (hpre k hk), ?_⟩⟩, fun k hk => (hin k hk).trans (hpre k hk)⟩
    · obtain ⟨h1, h2, h3⟩ := hpo k nd hk
      have := r'.node k nd h2
      cases nd with
      | row sz es =>
        rcases this with ⟨q1, q2⟩ | ⟨b, o, q1, q2⟩
        · exact .inl ⟨q1, by rw [hin k h1]; exact q2⟩
        · exact .inr ⟨b, o, by rw [hin k h1]; exact q1, q2⟩
      | _ => simp [Node.isRow] at h3
    · obtain ⟨_, h1, _⟩ := hpo k nd g1
      obtain ⟨_, h2, _⟩ := hpo k' nd' g2
      exact r'.inj _ _ _ _ _ _ _ h1 h2 (hsub k _ g3).2 (hsub k' _ g4).2
    · show k ∈ keys ([] : List (Nat × Node)) ++ keys pre
      exact List.mem_append.2 (.inr (hsub k p hk).1)
    · obtain ⟨_, h1, _⟩ := hpo k nd g1
      exact e''.owned b hb' ⟨k, nd, o, h1, (hsub k _ g2).2⟩
    · show k ∈ keys ([] : List (Nat × Node)) ++ keys pre
      exact List.mem_append.2 (.inr hk)
  rcases doneC_or hd with he | he <;> subst he <;> exact fin

theorem lookup_filterMap {g : Nat → Option Node} : ∀ (l : List Nat) (k : Nat), (l.filterMap fun k => (g k).map fun nd => (k, nd)).lookup k = if k ∈ l then g k else none
  | [], k => rfl
  | x :: l, k => by
    have ih := lookup_filterMap (g := g) l k
    cases hx : g x with
    | none =>
      simp only [List.filterMap_cons, hx, Option.map_none, ih, List.mem_cons]
      by_cases e : k = x
      · subst e; simp [hx]
      · simp [e]
    | some nd =>
      simp only [List.filterMap_cons, hx, Option.map_some, List.lookup_cons, ih, List.mem_cons]
      by_cases e : k = x
      · subst e; simp [hx]
      · have : (k == x) = false := by simpa using e
        simp [this, e]
theorem lookup_filterMap2 {g : Nat → Option Node} : ∀ (l : List (Nat × Node)) (k : Nat) (nd : Node), (l.filterMap fun p => (g p.1).map fun nd => (p.1, nd)).lookup k = some nd → g k = some nd ∧ k ∈ keys l
  | [], k, nd, h => by simp at h
  | p :: l, k, nd, h => by
    have ih := lookup_filterMap2 (g := g) l k nd
    cases hx : g p.1 with
    | none =>
      simp only [List.filterMap_cons, hx, Option.map_none] at h
      exact ⟨(ih h).1, List.mem_cons_of_mem _ (ih h).2⟩
    | some x =>
      simp only [List.filterMap_cons, hx, Option.map_some, List.lookup_cons] at h
      by_cases e : k = p.1
      · subst e
        simp only [beq_self_eq_true, Option.some.injEq] at h
        subst h
        exact ⟨hx, List.mem_cons_self ..⟩
      · have : (k == p.1) = false := by simpa using e
        rw [this] at h
        exact ⟨(ih h).1, List.mem_cons_of_mem _ (ih h).2⟩

theorem lcallC_sound (hT : FTGood P T) (hrun : RunOK P run) {s : CS} {st : St} (hl : Like s st) {f : Nat} {vs : List AV} {ev : Ev} (h : lcallC T run f vs s = some ev) : CallS P st s.nx f vs ev ∧ ev.C = [] := by
  simp only [lcallC] at h
  generalize hK : (vs.flatMap (nmA s.tr.get 12)).eraseDups = K at h
  generalize hP : (K.filterMap fun k => (s.tr.get k).map fun nd => (k, nd)) = pre at h
  have hlk : ∀ k, pre.lookup k = if k ∈ K then s.tr.get k else none := fun k => by rw [← hP]; exact lookup_filterMap K k
  cases hc : (pre.all (fun p => p.2.isRow && Nat.blt p.1 s.nx) && namess (keys pre) vs) with
  | false => rw [hc] at h; cases h
  | true =>
    rw [hc] at h
    simp only [cond_true] at h
    simp only [Bool.and_eq_true] at hc
    obtain ⟨hc1, hc2⟩ := hc
    rw [List.all_eq_true] at hc1
    split at h
    · rename_i fi hfi
      split at h
      · rename_i e s' hr
        cases hd : (doneC e && Nat.ble vs.length fi.n) with
        | false => rw [hd] at h; cases h
        | true =>
          rw [hd] at h
          simp only [cond_true] at h
          simp only [Bool.and_eq_true] at hd
          split at h
          · rename_i us hus
            generalize hQ : (pre.filterMap fun p => (s'.tr.get p.1).map fun nd => (p.1, nd)) = post at h
            have hlp : ∀ k nd, post.lookup k = some nd → s'.tr.get k = some nd ∧ k ∈ keys pre := fun k nd hk => by rw [← hQ] at hk; exact lookup_filterMap2 pre k nd hk
            cases hs : ((tupOf us).still && post.all (fun p => p.2.isRow)) with
            | false => rw [hs] at h; cases h
            | true =>
              rw [hs] at h
              simp only [cond_true, Option.some.injEq] at h
              subst h
              simp only [Bool.and_eq_true] at hs
              obtain ⟨hs1, hs2⟩ := hs
              rw [List.all_eq_true] at hs2
              obtain ⟨fn, hh, hf, hcf, hts, hfn, _⟩ := hT f fi hfi
              have hpk : ∀ k, k ∈ keys post → k ∈ keys pre := fun k hk => by
                obtain ⟨nd, hnd⟩ := mem_keys_of hk
                exact (hlp k nd hnd).2
              have hL : LCall P f vs pre (tupOf us) post := lcall_sound hf hcf hts (by rw [← hfn]; simpa using hd.2) (tr0 := setAll .lf (pre.map fun p => (p.1, some p.2))) (nx := s.nx) (fun k => by rw [setAll_get, lookup_map_some, Tr.get_lf]; cases pre.lookup k <;> rfl)
                (fun k hk => by
                  obtain ⟨nd, hnd⟩ := mem_keys_of hk
                  have := hc1 _ (mem_of_lookup hnd)
                  simp only [Bool.and_eq_true] at this
                  simpa using this.2) hl.low (fun N st hst => hrun _ _ _ _ hr N st hst) hd.1 hus hs1 (fun k nd hk => ⟨(hlp k nd hk).1, hs2 _ (mem_of_lookup hk)⟩) hpk
              have hb := still_bind hs1
              refine ⟨?_, by simp [callEv, hb, keys]⟩
              have := CallS.mk (P := P) (s := st) (m := s.nx) (f := f) (vs := vs) vs pre post (tupOf us) [] hl.low hL rfl (fun j v v' h1 h2 => by rw [h1] at h2; injection h2 with h2; subst h2; exact .keep v) hc2
                (fun k nd hk => by
                  rw [hl.ob]
                  rw [hlk] at hk
                  split at hk
                  · exact hk
                  · cases hk) (fun k nd hk => by
                  have := hc1 _ (mem_of_lookup hk)
                  simp only [Bool.and_eq_true] at this
                  exact row_names this.1 _) (fun k hk => by simp at hk) hpk (.inl rfl) (fun k hk => by rw [hb] at hk; simp [keys] at hk)
              simpa using this
          · cases h
      · cases h
    · cases h

theorem dcallC_sound (hT : FTGood P T) (hB : BGood P B) (hrun : RunOK P run) {s : CS} {st : St} (hl : Like s st) {f : Nat} {vs : List AV} {ev : Ev} (h : dcallC T B run f vs s = some ev) : CallS P st s.nx f vs ev ∧ ∀ k, k ∈ ev.C → k = s.nx := by
  have lc : ∀ {ev : Ev}, lcallC T run f vs s = some ev → CallS P st s.nx f vs ev ∧ ∀ k, k ∈ ev.C → k = s.nx := fun h => by
    obtain ⟨h1, h2⟩ := lcallC_sound hT hrun hl h
    exact ⟨h1, fun k hk => by rw [h2] at hk; simp at hk⟩
  simp only [dcallC] at h
  split at h
  · rename_i r hr
    obtain ⟨hc, hs⟩ := pcallC_sound hT hB hrun hr
    generalize hF : vs.flatMap (nmA s.tr.get 12) = F at *
    cases hk : ((F.isEmpty || r.noF) && namess [] (vs.map (fzV s.tr.get F 12))) with
    | false => rw [hk] at h; exact lc h
    | true =>
      rw [hk] at h
      simp only [cond_true, Option.some.injEq] at h
      subst h
      simp only [Bool.and_eq_true] at hk
      have hb := out_bind hs s.nx
      have hnoF : F.isEmpty = true ∨ ((bindR s.nx r).1.noF && ((bindR s.nx r).2 ++ []).all fun p : Nat × Node => p.2.noF) = true := by
        rcases Bool.or_eq_true _ _ ▸ hk.1 with h1 | h1
        · exact .inl h1
        · refine .inr ?_
          cases r with
          | own sz es =>
            simp only [AV.noF] at h1
            simp only [bindR, bind1, bind0, nodeOf, List.append_nil, List.all_cons, List.all_nil, Bool.and_true, AV.noF, Bool.true_and]
            split <;> simpa [Node.noF] using h1
          | _ => rw [still_bind (show AV.still _ = true from hs)]; simpa using h1
      have := CallS.of (P := P) (s := st) (m := s.nx) F 12 hc (vs := vs) (by
        have : ∀ l : List AV, okArgs st F 12 l (l.map (fzV s.tr.get F 12)) := fun l => by
          induction l with
          | nil => trivial
          | cons v l ih => exact ⟨.inl (by rw [hl.ob]), ih⟩
        exact this vs) trivial (by
        simp only [okCall, keys, List.map_nil, Bool.and_eq_true, decide_eq_true_eq]
        refine ⟨⟨⟨⟨⟨⟨hk.2, by simp⟩, by simp [noneIn]⟩, by simp⟩, ?_⟩, by simp [noneIn]⟩, hl.low⟩
        rw [Bool.or_eq_true]
        exact hnoF)
      refine ⟨by simpa [keys] using this, fun k hk' => hb.1 k ?_⟩
      exact hk'
  · exact lc h

theorem itemsD_sound (hT : FTGood P T) (hB : BGood P B) (hrun : RunOK P run) : ∀ (its : List It) (acc : List (It × Ev)) (s : CS) (st : St) (acc1 : List (It × Ev)) (s1 : CS), itemsD T B run its acc s = some (acc1, s1) → Like s st →
    ∃ its' l, its'.map It.bare = its.map It.bare ∧ acc1.reverse = acc.reverse ++ l ∧ RegE P its' st l ∧ Like s1 (stS (fun _ => true) 0 l st)
  | [], acc, s, st, acc1, s1, h, hl => by
    simp only [itemsD, Option.some.injEq, Prod.mk.injEq] at h
    obtain ⟨rfl, rfl⟩ := h
    exact ⟨[], [], rfl, by simp, rfl, hl⟩
  | it :: its, acc, s, st, acc1, s1, h, hl => by
    have hruns := hl.runs it.g
    have hm : s.nx ∉ st.nm := fun hk => Nat.lt_irrefl _ (hl.nm _ hk)
    have go : ∀ ev, RunIt P st { it with m := s.nx } ev → (∀ k, k ∈ ev.C → k = s.nx) → itemsD T B run its (({ it with m := s.nx }, ev) :: acc) (s.appD it.d ev) = some (acc1, s1) →
        ∃ its' l, its'.map It.bare = (it :: its).map It.bare ∧ acc1.reverse = acc.reverse ++ l ∧ RegE P its' st l ∧ Like s1 (stS (fun _ => true) 0 l st) := fun ev h1 hC h2 => by
      obtain ⟨its', l, g1, g2, g3, g4⟩ := itemsD_sound hT hB hrun its _ _ (st.app it.d ev) acc1 s1 h2 (hl.appD hC)
      refine ⟨{ it with m := s.nx } :: its', ({ it with m := s.nx }, ev) :: l, ?_, by rw [g2]; simp, ⟨ev, l, rfl, h1, g3⟩, ?_⟩
      · rw [List.map_cons, List.map_cons, g1]; rfl
      · rw [stS_true, stS_shift l 1 0]; exact g4
    unfold itemsD at h
    split at h
    · rename_i hr
      have hr' : runs st it.g = some true := by rw [hruns]; exact hr
      split at h
      · rename_i f xs hi
        split at h
        · rename_i ev hev
          obtain ⟨h1, h2⟩ := dcallC_sound hT hB hrun hl hev
          rw [← hl.get] at h1
          exact go ev (runs_true (it := { it with m := s.nx }) hr' rfl (by show OpS P st s.nx it.i ev; rw [hi]; exact .call h1) hm fun k hk => by rw [h2 k hk]; exact hm) h2 h
        · cases h
      · rename_i x xs hi
        split at h
        · rename_i f as cs hx
          cases hg : (T.get f).isSome with
          | false => rw [hg] at h; cases h
          | true =>
            rw [hg] at h
            simp only [cond_true] at h
            split at h
            · rename_i ev hev
              obtain ⟨h1, h2⟩ := dcallC_sound hT hB hrun hl hev
              rw [← hl.get] at h1 hx
              obtain ⟨fi, hfi⟩ := Option.isSome_iff_exists.1 hg
              obtain ⟨_, _, _, _, _, _, hb⟩ := hT f fi hfi
              exact go ev (runs_true (it := { it with m := s.nx }) hr' rfl (by show OpS P st s.nx it.i ev; rw [hi]; exact .callv hb hx h1) hm fun k hk => by rw [h2 k hk]; exact hm) h2 h
            · cases h
        · cases h
      · split at h
        · rename_i ev hev
          rw [← hl.get, ← hl.ob] at hev
          exact go ev (eval_runM hr' hev hm) (fun k hk => I.eval_C hev k hk) h
        · cases h
    · rename_i hr
      have hr' : runs st it.g = some false := by rw [hruns]; exact hr
      exact go skipEv (runs_false (it := { it with m := s.nx }) hr') (fun k hk => by simp [skipEv] at hk) h
    · cases h

end

/-! ### code -/
section
variable {P : Program} {T : FT} {B : Nat → List AV → Option AV}

def PostL (e : Exit) (s : CS) : Exit → St → Prop := fun e' st' => e' = e ∧ Like s st'

theorem runSeg_sound {run : CI → CS → Option (Exit × CS)} (hT : FTGood P T) (hB : BGood P B) (hrun : RunOK P run) {N : Nat} {ops : Array Oper} {its : List It} (hat0 : ItsAt P N ops its) {Q : Exit → Act → World → Prop} {s1 : CS} {β : Places} {Z : Froz} {w0 : World} {st0 : St}
    (hQ : ∀ s' a' w' β' Z', Like s1 s' → Rel N β' Z' s' a' w' → SExt β Z st0 w0 β' Z' s' w' → Q .normal a' w') :
    ∀ (qs : List Nat) (p : Nat) (s : CS), (∀ q, q ∈ qs → cutAt its q = true) → p ≤ its.length → runSeg T B run its p qs s = some s1 →
      ∀ (fuel : Nat) (listed : Array Bool) (a : Act) (w : World) (st : St) β1 Z1, Like s st → listed.size = ops.size → (∀ j, j < ops.size → listed.getD j false = decide (j < p)) → ops.size - p ≤ fuel → Rel N β1 Z1 st a w → SExt β Z st0 w0 β1 Z1 st w → wpAny P .any ops Q fuel listed a w := by
  have hqo : its.length = ops.size := by have := hat0.1; simpa using this.symm
  have hcutA : ∀ c, cutAt its c = true → ∀ j it, c ≤ j → its[j]? = some it → ∀ x, x < c → x ∈ it.a := fun c hc j it hj hit x hx => by
    have h1 : (its.drop c)[j - c]? = some it := by rw [List.getElem?_drop, show c + (j - c) = j by omega]; exact hit
    have h2 := List.all_eq_true.1 hc it (List.mem_of_getElem? h1)
    have h3 := List.all_eq_true.1 h2 x (List.mem_range.2 hx)
    simpa using h3
  intro qs
  induction qs with
  | nil =>
    intro p s _ hp h fuel listed a w st β1 Z1 hL hs hl hf r e
    simp only [runSeg] at h
    cases hb : Nat.beq p its.length with
    | false => rw [hb] at h; cases h
    | true =>
      rw [hb] at h
      simp only [cond_true, Option.some.injEq] at h
      subst h
      have hpe : p = its.length := Nat.eq_of_beq_eq_true hb
      have hr : Region.ready .any ops listed = [] := by
        apply List.eq_nil_iff_forall_not_mem.2
        intro j hj
        obtain ⟨h1, o, ho, _⟩ := mem_ready.1 hj
        have hlt : j < ops.size := (Array.getElem?_eq_some_iff.1 ho).1
        have h2 := hl j hlt
        have hjl : j < listed.size := by omega
        simp [hjl] at h1 h2
        rw [h1] at h2
        simp at h2
        omega
      have hq := hQ st a w β1 Z1 hL r e
      cases fuel with
      | zero => exact ⟨hr, hq⟩
      | succ f => exact ⟨fun _ => hq, fun i hi => absurd (show i ∈ ([] : List Nat) from hr ▸ hi) (by simp)⟩
  | cons q qs ih =>
    intro p s hcs hp h fuel listed a w st β1 Z1 hL hs hl hf r e
    have hcq := hcutA q (hcs q (List.mem_cons_self ..))
    have hcs' : ∀ q, q ∈ qs → cutAt its q = true := fun q hq => hcs q (List.mem_cons_of_mem _ hq)
    simp only [runSeg] at h
    cases hb : Nat.beq q (p + 1) with
    | true =>
      rw [hb] at h
      simp only [cond_true] at h
      have hqe : q = p + 1 := Nat.eq_of_beq_eq_true hb
      subst hqe
      split at h
      · rename_i s2 h2
        by_cases hplt : p < ops.size
        · have ho : ops[p]? = some ops[p] := by simp [hplt]
          obtain ⟨it, hit, c1, c2, c3, c4, _⟩ := hat0.2 p ops[p] (by simpa using ho)
          have htk : (its.drop p).take 1 = [it] := by
            rw [List.drop_eq_getElem_cons (by omega)]
            have := (List.getElem?_eq_some_iff.1 hit).2
            simp [this]
          rw [htk] at h2
          refine one_go hat0 ho hcq hf hs hl fun K hK => ?_
          exact itemC_sound hT hB hrun c1 c2 c3 c4 h2 hL r fun s' a' w' β' Z' hL' r' e' => by
            obtain ⟨f, rfl⟩ : ∃ f, fuel = f + 1 := ⟨fuel - 1, by omega⟩
            exact hK f a' w' (fun listed' hs' hl' hf' => ih (p + 1) s2 hcs' (by omega) h f listed' a' w' s' β' Z' hL' hs' hl' hf' r' (e.trans e')) rfl
        · have htk : (its.drop p).take 1 = [] := by rw [List.drop_eq_nil_of_le (by omega)]; rfl
          rw [htk] at h2
          simp only [itemsC, Option.some.injEq] at h2
          subst h2
          exfalso
          have : ∀ (qs : List Nat) (p : Nat) (s : CS), its.length < p → runSeg T B run its p qs s = some s1 → False := by
            intro qs
            induction qs with
            | nil =>
              intro p s hlt hh
              simp only [runSeg] at hh
              cases hb : Nat.beq p its.length with
              | false => rw [hb] at hh; cases hh
              | true => have := Nat.eq_of_beq_eq_true hb; omega
            | cons q qs ihh =>
              intro p s hlt hh
              simp only [runSeg] at hh
              cases hb : Nat.beq q (p + 1) with
              | true =>
                rw [hb] at hh
                simp only [cond_true] at hh
                have := Nat.eq_of_beq_eq_true hb
                split at hh
                · exact ihh q _ (by omega) hh
                · cases hh
              | false =>
                rw [hb] at hh
                simp only [cond_false] at hh
                cases hb2 : (Nat.ble p q && Nat.ble q its.length) with
                | false => rw [hb2] at hh; cases hh
                | true =>
                  simp only [Bool.and_eq_true] at hb2
                  have h1 := Nat.le_of_ble_eq_true hb2.1
                  have h2 := Nat.le_of_ble_eq_true hb2.2
                  omega
          exact this qs (p + 1) _ (by omega) h
      · cases h
    | false =>
      rw [hb] at h
      simp only [cond_false] at h
      cases hb2 : (Nat.ble p q && Nat.ble q its.length) with
      | false => rw [hb2] at h; cases h
      | true =>
        rw [hb2] at h
        simp only [cond_true] at h
        simp only [Bool.and_eq_true] at hb2
        have hpq := Nat.le_of_ble_eq_true hb2.1
        have hql := Nat.le_of_ble_eq_true hb2.2
        have go : ∀ (sa : CS) (sta : St) (βa : Places) (Za : Froz) (s2 : CS), Like sa sta → Rel N βa Za sta a w → SExt β Z st0 w0 βa Za sta w → runD T B run p ((its.drop p).take (q - p)) sa = some s2 → runSeg T B run its q qs s2 = some s1 → wpAny P .any ops Q fuel listed a w := fun sa sta βa Za s2 hLa ra ea hD hS => by
          unfold runD at hD
          split at hD
          · rename_i acc s3 h1
            cases hap : apartAll p acc.reverse with
            | false => rw [hap] at hD; cases hD
            | true =>
              rw [hap] at hD
              simp only [cond_true, Option.some.injEq] at hD
              subst hD
              obtain ⟨its1, l, q1, q2, q3, q4⟩ := itemsD_sound hT hB hrun ((its.drop p).take (q - p)) [] sa sta acc s3 h1 hLa
              have hl1 : its1.length = q - p := by
                have := congrArg List.length q1
                simp only [List.length_map, List.length_take, List.length_drop] at this
                omega
              have hmap : (its.take p ++ its1 ++ its.drop q).map It.bare = its.map It.bare := by
                rw [List.map_append, List.map_append, q1, ← List.map_append, ← List.map_append]
                congr 1
                have : its.drop q = (its.drop p).drop (q - p) := by rw [List.drop_drop]; congr 1; omega
                rw [this, List.append_assoc, List.take_append_drop, List.take_append_drop]
              have hat : ItsAt P N ops (its.take p ++ its1 ++ its.drop q) := hat0.bare hmap
              have hlen : (its.take p ++ its1 ++ its.drop q).length = ops.size := by have := hat.1; simpa using this.symm
              have hseg : ((its.take p ++ its1 ++ its.drop q).drop p).take (q - p) = its1 := by
                have e1 : (its.take p).length = p := by simp; omega
                rw [List.append_assoc, List.drop_left' e1, List.take_left' hl1]
              have hcut' : ∀ j it, q ≤ j → (its.take p ++ its1 ++ its.drop q)[j]? = some it → ∀ x, x < q → x ∈ it.a := fun j it hj hit x hx => by
                have e1 : (its.take p ++ its1).length = q := by simp; omega
                rw [List.getElem?_append_right (by omega), List.getElem?_drop, e1, show q + (j - q) = j by omega] at hit
                exact hcq j it hj hit x hx
              have hltd : ∀ j it, (its.take p ++ its1 ++ its.drop q)[j]? = some it → listed.getD j false = true → ∀ x, x ∈ it.a → listed.getD x false = true := fun j it hit hj x hx => by
                have hjs : j < ops.size := by rw [← hlen]; exact (List.getElem?_eq_some_iff.1 hit).1
                have hxj := its_lt hat j it hit x hx
                rw [hl j hjs] at hj
                rw [hl x (by omega)]
                have : j < p := by simpa using hj
                simp; omega
              have hap' : apartAll p l = true := by simpa [q2] using hap
              have hst0 : stS (fun i => listed.getD i false) p l sta = sta := by
                have : ∀ (l : List (It × Ev)) (k : Nat), p ≤ k → k + l.length ≤ ops.size → stS (fun i => listed.getD i false) k l sta = sta := by
                  intro l
                  induction l with
                  | nil => intro k _ _; rfl
                  | cons pr l ih =>
                    intro k hk hk2
                    simp only [List.length_cons] at hk2
                    have : listed.getD k false = false := by rw [hl k (by omega)]; simp; omega
                    simp only [stS, this, Bool.false_eq_true, if_false]
                    exact ih (k + 1) (by omega) (by omega)
                have hll : l.length = q - p := by
                  have := (RegE.at_ its1 sta l 0 q3).1
                  omega
                exact this l p (Nat.le_refl _) (by omega)
              refine drawn_mid hat hpq (by rw [hlen]; omega) hcut' (s := sta) (l := l) (by rw [hseg]; exact q3) hap' (β := βa) (Z := Za) (w0 := w)
                (fun fuel' listed' a' w' β' Z' hs' hl' hf' r' e' => ih q s3 hcs' hql hS fuel' listed' a' w' _ β' Z' (by rw [stS_shift l p 0]; exact q4) hs' hl' hf' r' (ea.trans e')) fuel listed a w hs ?_ (fun j hj => ?_) (fun j hj => ?_) hltd ⟨βa, Za, by rw [hst0]; exact ra, by rw [hst0]; exact SExt.refl ..⟩
              · have : ((List.range q).filter fun i => !listed.getD i true).length ≤ q - p := by
                  have hsub : ((List.range q).filter fun i => !listed.getD i true) = (List.range' p (q - p)) := by
                    have hr : List.range q = List.range p ++ List.range' p (q - p) := by
                      have := List.range'_append_1 (s := 0) (m := p) (n := q - p)
                      rw [Nat.zero_add, show p + (q - p) = q by omega] at this
                      rw [List.range_eq_range', List.range_eq_range']
                      exact this.symm
                    rw [hr, List.filter_append]
                    have e1 : (List.range p).filter (fun i => !listed.getD i true) = [] := by
                      rw [List.filter_eq_nil_iff]
                      intro x hx
                      have hx := List.mem_range.1 hx
                      have h0 := hl x (by omega)
                      have hxl : x < listed.size := by omega
                      simp [hxl] at h0 ⊢
                      rw [h0]; simpa using hx
                    have e2 : (List.range' p (q - p)).filter (fun i => !listed.getD i true) = List.range' p (q - p) := by
                      rw [List.filter_eq_self]
                      intro x hx
                      have hx := List.mem_range'_1.1 hx
                      have h0 := hl x (by omega)
                      have hxl : x < listed.size := by omega
                      simp [hxl] at h0 ⊢
                      rw [h0]; simp; omega
                    rw [e1, e2, List.nil_append]
                  rw [hsub, List.length_range']
                  exact Nat.le_refl _
                omega
              · rcases Nat.lt_or_ge j ops.size with h5 | h5
                · rw [hl j h5]; simp; omega
                · have : listed.size ≤ j := by omega
                  simp [this]
              · rw [hl j (by omega)]; simp; omega
          · cases hD
        split at h
        · rename_i s2 h2
          exact go s st β1 Z1 s2 hL r e h2 h
        · obtain ⟨st1, wk1, hL1⟩ := hL.fixVs (cutsOf s ((its.drop p).take (q - p)))
          have hL1 : Like (s.cuts ((its.drop p).take (q - p))) st1 := hL1
          split at h
          · rename_i s2 h2
            obtain ⟨β2, Z2, r2, e2⟩ := wk1 _ _ _ _ _ r
            exact go _ st1 β2 Z2 s2 hL1 r2 (e.trans e2) h2 h
          · split at h
            · rename_i s2 h2
              obtain ⟨st2, wk2, hL2⟩ := hL1.anyVs ((s.cuts ((its.drop p).take (q - p))).env.map (·.2))
              have hL2 : Like (s.cuts ((its.drop p).take (q - p))).anyE st2 := hL2
              obtain ⟨β2, Z2, r2, e2⟩ := (wk1.trans wk2) _ _ _ _ _ r
              exact go _ st2 β2 Z2 s2 hL2 r2 (e.trans e2) h2 h
            · split at h
              · rename_i s2 h2
                obtain ⟨β2, Z2, r2, e2⟩ := (Wk.fz st (needD T B run ((its.drop p).take (q - p)) s) 12) _ _ _ _ _ r
                exact go _ _ β2 Z2 s2 (hL.fzT _) r2 (e.trans e2) h2 h
              · cases h

theorem drw_sound {run : CI → CS → Option (Exit × CS)} (hT : FTGood P T) (hB : BGood P B) (hrun : RunOK P run) {its : List It} {live : List Nat} {s s1 : CS} {N : Nat} {st : St} (hl : Like s st) (h : runSeg T B run its 0 (cutList its) s = some s1) : AW P N (.drw its live) st (PostL .normal (s1.keep live)) := by
  intro hh code hc
  obtain ⟨id, ops, rfl, hm, g1, rfl⟩ := comp_inv hc
  intro β Z a w r
  have al : Alike w { w with drawn := w.drawn + 1 } := ⟨rfl, rfl, rfl, rfl⟩
  obtain ⟨r', e'⟩ := r.alike al
  have := wp_region_any (Q := Post N β Z st w fun e s' => e = .normal ∧ Like s1 s') (id := id) hm (runSeg_sound hT hB hrun (cIts_at _ _ _ g1) (β := β) (Z := Z) (w0 := w) (st0 := st) (fun s3 a3 w3 β3 Z3 hl3 r3 e3 => ⟨s3, β3, Z3, ⟨rfl, hl3⟩, r3, e3⟩) (cutList its) 0 s (fun q hq => by
    obtain ⟨c, _, hc⟩ := List.mem_filterMap.1 hq
    cases hx : cutAt its (c + 1) with
    | false => rw [hx] at hc; cases hc
    | true => rw [hx] at hc; simp only [cond_true, Option.some.injEq] at hc; rw [← hc]; exact hx) (Nat.zero_le _) h ops.size (Array.replicate ops.size false) a { w with drawn := w.drawn + 1 } st β Z hl (by simp) (fun j hj => by simp [hj]) (by omega) r' e')
  refine wp_mono this fun e a' w' ⟨s', β', Z', ⟨hq, hL⟩, r', e'⟩ => ?_
  subst hq
  obtain ⟨β'', Z'', r'', e''⟩ := Wk.keep s' (hh id) N β' Z' a' w' r'
  exact ⟨_, β'', Z'', ⟨rfl, hL.keep _⟩, r'', e'.trans e''⟩

theorem evN_both (hT : FTGood P T) (hB : BGood P B) : ∀ n : Nat, RunOK P (evN T B n) ∧ ∀ c s e s', evN T B n (.loop c) s = some (e, s') → ∀ N st, Like s st → LoopS (fun s Q => AW P N c s Q) st (PostL e s')
  | 0 => ⟨fun c s e s' h => by simp [evN] at h, fun c s e s' h => by simp [evN] at h⟩
  | n + 1 => by
    obtain ⟨ih, ihL⟩ := evN_both hT hB n
    have hloop : ∀ c s e s', evN T B (n + 1) (.loop c) s = some (e, s') → ∀ N st, Like s st → LoopS (fun s Q => AW P N c s Q) st (PostL e s') := fun c s e s' h N st hl => by
      intro I hI
      simp only [evN] at h
      split at h
      · rename_i s1 h1
        refine hI st ((ih c s .normal s1 h1 N st hl).mono fun e' st' ⟨he, hL⟩ => ?_)
        subst he
        exact ihL c s1 e s' h N st' hL I hI
      · rename_i hne
        refine hI st ((ih c s e s' h N st hl).mono fun e' st' ⟨he, hL⟩ => ?_)
        subst he
        cases e' with
        | normal => exact absurd h (hne s')
        | _ => exact ⟨rfl, hL⟩
    refine ⟨fun c s e s' h N st hl => ?_, hloop⟩
    cases c with
    | done =>
      simp only [evN, Option.some.injEq, Prod.mk.injEq] at h
      obtain ⟨rfl, rfl⟩ := h
      exact AW.done ⟨rfl, hl⟩
    | exit id =>
      simp only [evN, Option.some.injEq, Prod.mk.injEq] at h
      obtain ⟨rfl, rfl⟩ := h
      exact AW.exit ⟨rfl, hl⟩
    | ret =>
      simp only [evN, Option.some.injEq, Prod.mk.injEq] at h
      obtain ⟨rfl, rfl⟩ := h
      exact AW.ret ⟨rfl, hl⟩
    | reg its live =>
      simp only [evN] at h
      split at h
      · rename_i s1 h1
        simp only [Option.some.injEq, Prod.mk.injEq] at h
        obtain ⟨rfl, rfl⟩ := h
        intro hh code hc
        obtain ⟨id, ops, rfl, g1, rfl⟩ := comp_inv hc
        intro β Z a w r
        refine wp_region_list (itemsC_sound hT hB ih ops.toList [] its g1 h1 hl r fun s' a' w' β' Z' hl' r' e' => ?_)
        obtain ⟨β'', Z'', r'', e''⟩ := Wk.keep s' (hh id) N β' Z' a' w' r'
        exact ⟨_, β'', Z'', ⟨rfl, hl'.keep _⟩, r'', e'.trans e''⟩
      · cases h
    | drw its live =>
      simp only [evN] at h
      split at h
      · rename_i s1 h1
        simp only [Option.some.injEq, Prod.mk.injEq] at h
        obtain ⟨rfl, rfl⟩ := h
        exact drw_sound hT hB ih hl h1
      · cases h
    | seq a b =>
      simp only [evN] at h
      refine AW.seq ?_
      split at h
      · rename_i s1 h1
        refine (ih a s .normal s1 h1 N st hl).mono fun e' st' ⟨he, hL⟩ => ?_
        subst he
        exact ih b s1 e s' h N st' hL
      · rename_i hne
        refine (ih a s e s' h N st hl).mono fun e' st' ⟨he, hL⟩ => ?_
        subst he
        cases e' with
        | normal => exact absurd h (hne s')
        | _ => exact ⟨rfl, hL⟩
    | cond c a b =>
      simp only [evN] at h
      split at h
      · rename_i hc
        rw [← hl.get] at hc
        exact AW.cond hc (ih a s e s' h N st hl)
      · rename_i hc
        rw [← hl.get] at hc
        exact AW.cond hc (ih b s e s' h N st hl)
      · cases h
    | block id c =>
      simp only [evN] at h
      refine AW.block ?_
      split at h
      · rename_i id' s1 h1
        refine (ih c s _ s1 h1 N st hl).mono fun e' st' ⟨he, hL⟩ => ?_
        subst he
        have hb : Nat.beq id' id = decide (id' = id) := by rw [Bool.eq_iff_iff]; simp
        rw [hb] at h
        by_cases hid : id' = id
        · simp only [hid, decide_true, cond_true, Option.some.injEq, Prod.mk.injEq] at h
          obtain ⟨rfl, rfl⟩ := h
          simp only [Exit.inB, hid, if_true]
          first | exact ⟨rfl, hL⟩ | exact ⟨trivial, hL⟩
        · simp only [hid, decide_false, cond_false, Option.some.injEq, Prod.mk.injEq] at h
          obtain ⟨rfl, rfl⟩ := h
          simp only [Exit.inB, hid, if_false]
          first | exact ⟨rfl, hL⟩ | exact ⟨trivial, hL⟩
      · rename_i hne
        refine (ih c s e s' h N st hl).mono fun e' st' ⟨he, hL⟩ => ?_
        subst he
        cases e' with
        | exit id' => exact absurd h (hne id' s')
        | _ => exact ⟨rfl, hL⟩
    | loop c => exact AW.loop (hloop c s e s' h N st hl)

theorem evF_sound (hT : FTGood P T) (hB : BGood P B) {n f : Nat} {args : List AV} {r : AV} (h : evF T B n f args = some r) : PCall P f args r :=
  (pcallC_sound hT hB (evN_both hT hB n).1 h).1

/-- The table's functions, checked one by one. -/
def FTAll (p : Nat → FI → Prop) : FT → Prop
  | .lf => True
  | .br k fi l r => p k fi ∧ FTAll p l ∧ FTAll p r
theorem FTAll.get {p : Nat → FI → Prop} : ∀ {T : FT} {f : Nat} {fi : FI}, FTAll p T → T.get f = some fi → p f fi
  | .lf, f, fi, _, h => by simp [FT.get] at h
  | .br k x l r, f, fi, ⟨h1, h2, h3⟩, h => by
    simp only [FT.get] at h
    cases hk : Nat.beq k f with
    | true =>
      rw [hk] at h
      simp only [cond_true, Option.some.injEq] at h
      have : k = f := Nat.eq_of_beq_eq_true hk
      subst this h
      exact h1
    | false =>
      rw [hk] at h
      simp only [cond_false] at h
      cases hb : Nat.blt f k with
      | true => rw [hb] at h; exact FTAll.get h2 h
      | false => rw [hb] at h; exact FTAll.get h3 h

/-- No contracts of other making. -/
def noB : Nat → List AV → Option AV := fun _ _ => none
theorem noB_good : BGood P noB := fun f args r h => by simp [noB] at h

def AV.isTrue : AV → Bool
  | .sc (.bool b) => b
  | _ => false
theorem isTrue_eq {v : AV} (h : v.isTrue = true) : v = .sc (.bool true) := by
  cases v with
  | sc u => cases u with
    | bool b => simp [AV.isTrue] at h; rw [h]
    | _ => simp [AV.isTrue] at h
  | _ => simp [AV.isTrue] at h
end

end Go.Proofs.YtbmlhmgldipnhabGreatE
