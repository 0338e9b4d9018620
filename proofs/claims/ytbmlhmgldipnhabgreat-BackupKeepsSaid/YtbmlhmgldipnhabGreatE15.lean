/-
  The engine, part 15: every operation but calls of functions.
-/
import Derived.Test.YtbmlhmgldipnhabGreatEX2
set_option linter.unusedVariables false
set_option linter.unusedSimpArgs false
namespace Go.Proofs.YtbmlhmgldipnhabGreatE
open Go

section
variable {P : Program} {N : Nat} {β : Places} {Z : Froz} {s : St} {a : Act} {w : World} {o : Oper}

theorem elemOk_of {e : TypeId} {sz by' : Nat} {zs : List AV} (h1 : szOf P e = some sz) (h2 : elemBytes P e = some by') (h3 : zeroOf P e = some zs) (h4 : zs.length = sz) (h5 : 0 < by') : ElemOk P e sz by' := by
  unfold szOf at h1
  unfold elemBytes at h2
  obtain ⟨i, hi, hs⟩ := Option.map_eq_some_iff.1 h1
  obtain ⟨i', hi', hb⟩ := Option.map_eq_some_iff.1 h2
  rw [hi] at hi'
  injection hi' with hi'
  subst hi'
  unfold zeroOf at h3
  obtain ⟨z, hz, hm⟩ := Option.bind_eq_some_iff.1 h3
  obtain ⟨i2, hi2, hz⟩ := Option.bind_eq_some_iff.1 hz
  rw [hi] at hi2
  injection hi2 with hi2
  subst hi2
  have := (zeros_rep (β := fun _ => none) (Z := fun _ _ => False) (w := default) hm).len
  exact ⟨⟨i, z, hi, hs, hb, hz, by rw [this, h4], zs, hm⟩, h5⟩

theorem compEq_sound (r : Rel N β Z s a w) {neg : Bool} {t : TypeId} {x y : Operand} {i : I} (h : compEq P neg t x y = some i) {m : Nat} {ev : Ev} (he : i.eval s.get s.ob m = some ev) :
    ∃ q, (do eqGuard (if neg then .neq else .eql) t x y (a.eval x) (a.eval y); binOp (if neg then .neq else .eql) t (a.eval x) (a.eval y) : Sem Value).run P w = .ok q w ∧ CRep β Z w ev.v q ∧ ev.U = [] ∧ ev.C = [] := by
  unfold compEq at h
  have hbin : ∀ x' y', cOpd x = some x' → cOpd y = some y' → i = .bin (if neg then .neq else .eql) x' y' → ∃ q, (do eqGuard (if neg then .neq else .eql) t x y (a.eval x) (a.eval y); binOp (if neg then .neq else .eql) t (a.eval x) (a.eval y) : Sem Value).run P w = .ok q w ∧ CRep β Z w ev.v q ∧ ev.U = [] ∧ ev.C = [] := by
    intro x' y' hx hy hi
    subst hi
    simp only [I.eval] at he
    obtain ⟨v, hv, rfl⟩ := bind_pure he
    obtain ⟨q, h1, h2⟩ := binV_sound (P := P) (t := t) (opd_rep r hx) (opd_rep r hy) hv x y
    exact ⟨q, h1, h2, rfl, rfl⟩
  split at h
  · simp only [Option.bind_eq_some_iff, Option.some.injEq] at h
    obtain ⟨x', hx, y', hy, h⟩ := h
    exact hbin x' y' hx hy h.symm
  · simp only [Option.bind_eq_some_iff, Option.some.injEq] at h
    obtain ⟨x', hx, y', hy, h⟩ := h
    exact hbin x' y' hx hy h.symm
  · rename_i e ht
    have hc : ∀ z : Operand, isNilConst z = true → a.eval z = .slice none 0 0 := fun z hz => by
      unfold isNilConst at hz
      split at hz
      · rfl
      · cases hz
    split at h
    · rename_i hn
      obtain ⟨x', hx, rfl⟩ := Option.map_eq_some_iff.1 h
      have := eqnil_sound (P := P) ht (neg := neg) s.get s.ob m x' rfl (opd_rep r hx) he x y false
      simpa [hc y hn] using this
    · split at h
      · rename_i hn
        obtain ⟨y', hy, rfl⟩ := Option.map_eq_some_iff.1 h
        have := eqnil_sound (P := P) ht (neg := neg) s.get s.ob m y' rfl (opd_rep r hy) he x y true
        simpa [hc x hn] using this
      · cases h
  · rename_i ht
    simp only [Option.bind_eq_some_iff, Option.some.injEq] at h
    obtain ⟨x', hx, y', hy, h⟩ := h
    subst h
    simp only [I.eval] at he
    split at he
    · rename_i hag
      obtain ⟨b, hb, he⟩ := Option.bind_eq_some_iff.1 he
      rw [some_pure he]
      obtain ⟨q, h1, h2⟩ := eqs_sound (P := P) (t := t) (ks := [0]) (neg := neg) (ag := false) (by simp [eqShape, ht]) (by simp [agOf, ht]) (fun h => by cases h) (opd_rep r hx) (opd_rep r hy) hag.1 hag.2 hb x y
      exact ⟨q, h1, h2, rfl, rfl⟩
    · cases he
  · rename_i fs ht
    split at h
    · rename_i hg
      simp only [Option.bind_eq_some_iff, Option.some.injEq] at h
      obtain ⟨ks, hks, x', hx, y', hy, h⟩ := h
      subst h
      simp only [I.eval] at he
      split at he
      · rename_i hag
        obtain ⟨b, hb, he⟩ := Option.bind_eq_some_iff.1 he
        rw [some_pure he]
        obtain ⟨q, h1, h2⟩ := eqs_sound (P := P) (t := t) (neg := neg) (ag := true) hks (by simp [agOf, ht]) (fun _ => hg) (opd_rep r hx) (opd_rep r hy) hag.1 hag.2 hb x y
        exact ⟨q, h1, h2, rfl, rfl⟩
      · cases he
    · cases h
  · rename_i na ea ht
    split at h
    · rename_i hg
      simp only [Option.bind_eq_some_iff, Option.some.injEq] at h
      obtain ⟨ks, hks, x', hx, y', hy, h⟩ := h
      subst h
      simp only [I.eval] at he
      split at he
      · rename_i hag
        obtain ⟨b, hb, he⟩ := Option.bind_eq_some_iff.1 he
        rw [some_pure he]
        obtain ⟨q, h1, h2⟩ := eqs_sound (P := P) (t := t) (neg := neg) (ag := true) hks (by simp [agOf, ht]) (fun _ => hg) (opd_rep r hx) (opd_rep r hy) hag.1 hag.2 hb x y
        exact ⟨q, h1, h2, rfl, rfl⟩
      · cases he
    · cases h
  · cases h

theorem ext_case (r : Rel N β Z s a w) (hd : ∀ x, o.dst = some x → x < N) {i : I} (h : some (extI P o) = some i) {m : Nat} (hm : m ∉ s.nm) {ev : Ev} (he : i.eval s.get s.ob m = some ev) : Fin P N o β Z s a w (s.app o.dst ev) := by
  injection h with h
  subst h
  unfold extI at he
  split at he
  · rename_i x hx; exact X_sound r hd hx hm he
  · cases he

theorem bin_case (r : Rel N β Z s a w) (hd : ∀ x, o.dst = some x → x < N) {op : BinOp} {t ty : TypeId} {x y : Operand} (ho : o.op = .binOp op t x y ty) {i : I} (h : ((cOpd x).bind fun x => (cOpd y).bind fun y => some (I.bin op x y)) = some i) {m : Nat} {ev : Ev} (he : i.eval s.get s.ob m = some ev) : Fin P N o β Z s a w (s.app o.dst ev) := by
  simp only [Option.bind_eq_some_iff, Option.some.injEq] at h
  obtain ⟨x', hx, y', hy, h⟩ := h
  subst h
  simp only [I.eval] at he
  obtain ⟨v, hv, rfl⟩ := bind_pure he
  obtain ⟨q, h1, h2⟩ := binV_sound (P := P) (t := t) (opd_rep r hx) (opd_rep r hy) hv x y
  exact fin_pure r hd (by simp only [execOp, ho]; exact run_v h1) h2 rfl rfl

theorem len_case (r : Rel N β Z s a w) (hd : ∀ x, o.dst = some x → x < N) {c : Call} (ho : o.op = .call c) {x : Operand} {t : TypeId} (hc : c.callee = .builtin .len) (ha : c.args.toList = [x]) (ht : c.argTypes.toList = [t]) {str : Bool} {x' : Opd} (hx : cOpd x = some x')
    (hk : str = true → P.underlying t = some .string) (hk' : str = false → ∃ e, P.underlying t = some (.slice e)) {m : Nat} {ev : Ev} (he : (I.len str x').eval s.get s.ob m = some ev) : Fin P N o β Z s a w (s.app o.dst ev) := by
  obtain ⟨callee, args, argTypes⟩ := c
  simp only at hc ha ht
  subst hc
  obtain rfl : args = #[x] := by cases args; simp_all
  obtain rfl : argTypes = #[t] := by cases argTypes; simp_all
  simp only [I.eval] at he
  obtain ⟨n, hn, he⟩ := Option.bind_eq_some_iff.1 he
  rw [some_pure he]
  have := lenV_sound (P := P) (ty := o.type) hk hk' (opd_rep r hx) hn
  refine fin_pure r hd (u := .int .i64 n) ?_ (.fro (.sc _ rfl)) rfl rfl
  simp [execOp, ho, resolve, invoke, builtin, this]

theorem mm_case (r : Rel N β Z s a w) (hd : ∀ x, o.dst = some x → x < N) {c : Call} (ho : o.op = .call c) {mx : Bool} {x y : Operand} (hc : c.callee = .builtin (if mx then .max else .min)) (ha : c.args.toList = [x, y]) {x' y' : Opd} (hx : cOpd x = some x') (hy : cOpd y = some y')
    {m : Nat} {ev : Ev} (he : (I.mm mx x' y').eval s.get s.ob m = some ev) : Fin P N o β Z s a w (s.app o.dst ev) := by
  obtain ⟨callee, args, argTypes⟩ := c
  simp only at hc ha
  subst hc
  obtain rfl : args = #[x, y] := by cases args; simp_all
  simp only [I.eval] at he
  split at he
  · rename_i k a1 k' b1 h1 h2
    rw [some_pure he]
    have e1 := opd_rep r hx
    have e2 := opd_rep r hy
    rw [h1] at e1
    rw [h2] at e2
    have f1 : a.eval x = .int k a1 := by
      generalize a.eval x = u at e1
      cases e1 with
      | fro h => cases h with
        | sc => rfl
    have f2 : a.eval y = .int k' b1 := by
      generalize a.eval y = u at e2
      cases e2 with
      | fro h => cases h with
        | sc => rfl
    refine fin_pure r hd (u := .int k (if mx then (if b1 > a1 then b1 else a1) else (if b1 < a1 then b1 else a1))) ?_ (.fro (.sc _ rfl)) rfl rfl
    cases mx
    · simp [execOp, ho, resolve, invoke, builtin, Builtin.min_, Builtin.min2, f1, f2]
    · simp [execOp, ho, resolve, invoke, builtin, Builtin.max_, Builtin.max2, f1, f2]
  · cases he

theorem app_case (r : Rel N β Z s a w) (hd : ∀ x, o.dst = some x → x < N) {c : Call} (ho : o.op = .call c) {x y : Operand} {t tx e e' : TypeId} (hc : c.callee = .builtin .append) (ha : c.args.toList = [x, y]) (ht : c.argTypes.toList = [t, tx]) {x' y' : Opd} (hx : cOpd x = some x') (hy : cOpd y = some y')
    (h1 : P.underlying t = some (.slice e)) (h2 : P.underlying tx = some (.slice e')) {sz by' : Nat} (hek : ElemOk P e sz by') {m : Nat} (hm : m ∉ s.nm) {ev : Ev} (he : (I.app x' y' sz by').eval s.get s.ob m = some ev) : Fin P N o β Z s a w (s.app o.dst ev) := by
  obtain ⟨callee, args, argTypes⟩ := c
  simp only at hc ha ht
  subst hc
  obtain rfl : args = #[x, y] := by cases args; simp_all
  obtain rfl : argTypes = #[t, tx] := by cases argTypes; simp_all
  simp only [I.eval] at he
  obtain ⟨u', w', β', q1, q2, q3⟩ := appV_sound (P := P) (ty := o.type) r hm hd h1 h2 hek (opd_rep r hx) (opd_rep r hy) he
  exact fin_obj (by simp [execOp, ho, resolve, invoke, builtin, q1]) q2 q3

set_option maxHeartbeats 1000000 in
theorem eval_sound (r : Rel N β Z s a w) (hd : ∀ x, o.dst = some x → x < N) {i : I} (h : compI P o = some i) {m : Nat} (hm : m ∉ s.nm) {ev : Ev} (he : i.eval s.get s.ob m = some ev) : Fin P N o β Z s a w (s.app o.dst ev) := by
  unfold compI at h
  split at h
  case h_1 x ho =>
    obtain ⟨x', hx, rfl⟩ := Option.map_eq_some_iff.1 h
    simp only [I.eval] at he
    rw [some_pure he]
    exact fin_pure r hd (by simp only [execOp, ho]; rfl) (opd_rep r hx) rfl rfl
  case h_2 x ho =>
    obtain ⟨x', hx, rfl⟩ := Option.map_eq_some_iff.1 h
    simp only [I.eval] at he
    rw [some_pure he]
    exact fin_pure r hd (by simp only [execOp, ho]; rfl) (opd_rep r hx) rfl rfl
  case h_3 c x y ho =>
    simp only [Option.bind_eq_some_iff, Option.some.injEq] at h
    obtain ⟨c', hc, x', hx, y', hy, rfl⟩ := h
    simp only [I.eval] at he
    split at he
    · rename_i t ht
      rw [some_pure he]
      have h1 := opd_rep r hc
      rw [ht] at h1
      refine fin_pure r hd (u := if t then a.eval x else a.eval y) ?_ ?_ rfl rfl
      · simp [execOp, ho, h1.sc_inv, asBool]
      · cases t
        · exact opd_rep r hy
        · exact opd_rep r hx
    · cases he
  case h_4 e ho =>
    obtain ⟨zs, hz, rfl⟩ := Option.map_eq_some_iff.1 h
    simp only [I.eval, Option.some.injEq] at he
    subst he
    obtain ⟨u', w', β', q1, q2, q3⟩ := alloc_sound (P := P) r hm hd hz
    exact fin_obj (by simp only [execOp, ho]; exact run_v q1) q2 q3
  case h_5 e x ho =>
    obtain ⟨x', hx, rfl⟩ := Option.map_eq_some_iff.1 h
    simp only [I.eval] at he
    split at he
    · rename_i h1
      simp only [Option.some.injEq] at he
      subst he
      obtain ⟨u', w', β', q1, q2, q3⟩ := box_sound (P := P) (t := e) r hm hd (opd_rep r hx) h1
      exact fin_obj (by simp only [execOp, ho]; exact run_v q1) q2 q3
    · cases he
  case h_6 t parts ho =>
    split at h
    · rename_i fs ht
      simp only [Option.bind_eq_some_iff] at h
      obtain ⟨zs, hz, pl, hpl, h⟩ := h
      obtain ⟨qs, hq, rfl⟩ := Option.map_eq_some_iff.1 h
      simp only [I.eval] at he
      obtain ⟨cs, hcs, he⟩ := Option.bind_eq_some_iff.1 he
      rw [some_pure he]
      obtain ⟨u, q1, q2⟩ := build_sound (P := P) r hz hq hcs (.inl ⟨fs, ht, pl.toArray, places_run hpl, by funext i; simp⟩)
      exact fin_pure r hd (by simp only [execOp, ho]; exact run_v q1) q2 rfl rfl
    · rename_i n e ht
      simp only [Option.bind_eq_some_iff] at h
      obtain ⟨zs, hz, sz, hs, h⟩ := h
      obtain ⟨qs, hq, rfl⟩ := Option.map_eq_some_iff.1 h
      simp only [I.eval] at he
      obtain ⟨cs, hcs, he⟩ := Option.bind_eq_some_iff.1 he
      rw [some_pure he]
      obtain ⟨u, q1, q2⟩ := build_sound (P := P) r hz hq hcs (.inr ⟨n, e, sz, ht, hs, rfl⟩)
      exact fin_pure r hd (by simp only [execOp, ho]; exact run_v q1) q2 rfl rfl
    · cases h
  case h_7 t n parts ho =>
    split at h
    · rename_i e ht
      simp only [Option.bind_eq_some_iff] at h
      obtain ⟨zs, hz, sz, hs, h⟩ := h
      split at h
      · rename_i hk
        obtain ⟨qs, hq, rfl⟩ := Option.map_eq_some_iff.1 h
        simp only [I.eval] at he
        obtain ⟨cs, hcs, he⟩ := Option.bind_eq_some_iff.1 he
        simp only [Option.some.injEq] at he
        subst he
        obtain ⟨u', w', β', q1, q2, q3⟩ := bsl_sound (P := P) r hm hd ht hs hk.2 hz hk.1 hq hcs
        exact fin_obj (by simp only [execOp, ho]; exact run_v q1) q2 q3
      · cases h
    · cases h
  case h_8 t x ho =>
    simp only [Option.bind_eq_some_iff] at h
    obtain ⟨sz, hs, ag, ha, h⟩ := h
    split at h
    · rename_i hk
      obtain ⟨x', hx, rfl⟩ := Option.map_eq_some_iff.1 h
      simp only [I.eval] at he
      obtain ⟨u', q1, q2, q3, q4⟩ := loadV_sound (P := P) r hs ha (fun e => by rcases hk with hk | hk; (rw [hk] at e; cases e); exact hk) (opd_rep r hx) he
      exact fin_pure r hd (by simp only [execOp, ho]; exact run_v q1) q2 q3 q4
    · cases h
  case h_9 t x y ho =>
    split at h
    · rename_i hdst
      simp only [Option.bind_eq_some_iff] at h
      obtain ⟨sz, hs, h⟩ := h
      split at h
      · rename_i h0
        simp only [Option.bind_eq_some_iff] at h
        obtain ⟨x', hx, h⟩ := h
        obtain ⟨y', hy, rfl⟩ := Option.map_eq_some_iff.1 h
        simp only [I.eval] at he
        obtain ⟨w', q1, q2, q3⟩ := storeV_sound (P := P) r hs h0 (opd_rep r hx) (opd_rep r hy) he
        refine ⟨.skip, w', β, by simp [execOp, ho, q1], .inr ⟨rfl, ?_⟩, ?_⟩
        · rw [hdst]; exact q2
        · rw [hdst]; exact q3
      · cases h
    · cases h
  case h_10 x ho =>
    obtain ⟨x', hx, rfl⟩ := Option.map_eq_some_iff.1 h
    simp only [I.eval] at he
    have hx' := opd_rep r hx
    generalize s.get x' = v at he hx'
    obtain ⟨v', hv', rfl⟩ : ∃ v', (match v with
      | .fp cs => some (AV.fp cs)
      | .ptr k z i o => some (.ptr k z i o)
      | .fn f a b => some (.fn f a b)
      | _ => none) = some v' ∧ ev = ⟨v', [], [], []⟩ := by
      cases v <;> simp only at he <;> first | (cases he; done) | exact ⟨_, rfl, some_pure he⟩
    obtain ⟨q1, q2⟩ := nilck_sound (P := P) o a.eval ho rfl hv' hx'
    exact fin_pure r hd q1 q2 rfl rfl
  case h_11 t x y ty ho =>
    obtain ⟨q, h1, h2, h3, h4⟩ := compEq_sound (P := P) r h he
    exact fin_pure r hd (by simp only [execOp, ho]; exact run_v (by simpa using h1)) h2 h3 h4
  case h_12 t x y ty ho =>
    obtain ⟨q, h1, h2, h3, h4⟩ := compEq_sound (P := P) r h he
    exact fin_pure r hd (by simp only [execOp, ho]; exact run_v (by simpa using h1)) h2 h3 h4
  case h_13 op t x y ty _ _ ho => exact bin_case r hd ho h he
  case h_14 op t x ho =>
    obtain ⟨x', hx, rfl⟩ := Option.map_eq_some_iff.1 h
    simp only [I.eval] at he
    obtain ⟨v, hv, rfl⟩ := bind_pure he
    obtain ⟨q, h1, h2⟩ := unV_sound (P := P) (opd_rep r hx) hv
    exact fin_pure r hd (by simp only [execOp, ho]; exact run_v h1) h2 rfl rfl
  case h_15 t t' x ho =>
    split at h
    · rename_i k0 k hs ht
      obtain ⟨x', hx, rfl⟩ := Option.map_eq_some_iff.1 h
      simp only [I.eval] at he
      split at he
      · rename_i kk n hv
        rw [some_pure he]
        have h1 := opd_rep r hx
        rw [hv] at h1
        refine fin_pure r hd (u := .int k (k.wrap n)) ?_ (.fro (.sc _ rfl)) rfl rfl
        simp only [execOp, ho]
        refine run_v ?_
        rw [h1.sc_inv]
        simp [convert, run_underlying hs, run_underlying ht, Conv.intToInt]
      · cases he
    · injection h with h
      subst h
      cases he
  case h_16 f fs cs ho =>
    simp only [Option.bind_eq_some_iff] at h
    obtain ⟨fs', hf, h⟩ := h
    obtain ⟨cs', hc, rfl⟩ := Option.map_eq_some_iff.1 h
    simp only [I.eval] at he
    rw [some_pure he]
    obtain ⟨e1, e2⟩ := cOpds_rep r _ _ hf
    obtain ⟨e3, e4⟩ := cOpds_rep r _ _ hc
    refine fin_pure r hd (u := .func (.func f) (fs.map a.eval) (cs.map a.eval)) (by simp [execOp, ho, Instr.makeFunc]) ?_ rfl rfl
    have h1 : fs.map a.eval = (fs.toList.map a.eval).toArray := by apply Array.ext'; simp
    have h2 : cs.map a.eval = (cs.toList.map a.eval).toArray := by apply Array.ext'; simp
    rw [h1, h2]
    exact .fn f _ _ _ _ e1 e3 e2 e4
  case h_17 t x lo hi ho =>
    split at h
    · rename_i e ht
      simp only [Option.bind_eq_some_iff] at h
      obtain ⟨sz, hs, x', hx, lo', hlo, h⟩ := h
      obtain ⟨hi', hhi, rfl⟩ := Option.map_eq_some_iff.1 h
      simp only [I.eval] at he
      obtain ⟨v, hv, rfl⟩ := bind_pure he
      obtain ⟨q, h1, h2⟩ := slc_sound (P := P) r ht hs hlo hhi (opd_rep r hx) hv
      exact fin_pure r hd (by simp only [execOp, ho]; exact run_v h1) h2 rfl rfl
    · rename_i ht
      simp only [Option.bind_eq_some_iff] at h
      obtain ⟨x', hx, lo', hlo, h⟩ := h
      obtain ⟨hi', hhi, rfl⟩ := Option.map_eq_some_iff.1 h
      simp only [I.eval] at he
      split at he
      · rename_i str hv
        simp only [Option.bind_eq_bind, Option.bind_eq_some_iff] at he
        obtain ⟨hh, h1, l, h2, he⟩ := he
        split at he
        · rename_i hk
          rw [some_pure he]
          have h0 := opd_rep r hx
          rw [hv] at h0
          have := sslc_sound (P := P) r ht hlo hhi h1 h2 hk.1 hk.2
          refine fin_pure r hd (u := .string (str.extract l hh)) ?_ (.fro (.sc _ rfl)) rfl rfl
          simp only [execOp, ho]
          refine run_v ?_
          rw [h0.sc_inv]
          exact this
        · cases he
      · cases he
    · exact ext_case r hd h hm he
  case h_18 t x f ho =>
    split at h
    · rename_i fs ht
      simp only [Option.bind_eq_some_iff] at h
      obtain ⟨fl, hf, n, hn, h⟩ := h
      split at h
      · rename_i h0
        obtain ⟨x', hx, rfl⟩ := Option.map_eq_some_iff.1 h
        obtain ⟨u', q1, q2, q3, q4⟩ := fld_sound (P := P) ht hf hn h0 (opd_rep r hx) he
        exact fin_pure r hd (by simp only [execOp, ho]; exact run_v q1) q2 q3 q4
      · cases h
    · cases h
  case h_19 t x ix ho =>
    split at h
    · rename_i e ht
      simp only [Option.bind_eq_some_iff] at h
      obtain ⟨sz, hs, x', hx, h⟩ := h
      obtain ⟨i', hi, rfl⟩ := Option.map_eq_some_iff.1 h
      simp only [I.eval] at he
      obtain ⟨v, hv, rfl⟩ := bind_pure he
      obtain ⟨u', q1, q2⟩ := idxV_sound (P := P) ht hs (opd_rep r hx) (opd_rep r hi) hv
      exact fin_pure r hd (by simp only [execOp, ho]; exact run_v q1) q2 rfl rfl
    · exact ext_case r hd h hm he
  case h_20 t x ix ho =>
    split at h
    · rename_i ht
      simp only [Option.bind_eq_some_iff] at h
      obtain ⟨x', hx, h⟩ := h
      obtain ⟨i', hi, rfl⟩ := Option.map_eq_some_iff.1 h
      simp only [I.eval] at he
      split at he
      · rename_i str k n hv hn
        split at he
        · rename_i h0
          obtain ⟨b, hb, he⟩ := Option.bind_eq_some_iff.1 he
          rw [some_pure he]
          have h1 := opd_rep r hx
          have h2 := opd_rep r hi
          rw [hv] at h1
          rw [hn] at h2
          refine fin_pure r hd (u := .int .u8 b.toNat) ?_ (.fro (.sc _ rfl)) rfl rfl
          simp only [execOp, ho]
          refine run_v ?_
          rw [h1.sc_inv, h2.sc_inv]
          have hb' : str[n.toNat]? = some b := by
            have : n.toNat < str.size := (Array.getElem?_eq_some_iff.1 hb).1
            rw [getElem?_pos str n.toNat this]
            have h3 := (Array.getElem?_eq_some_iff.1 hb).2
            rw [← h3]
            rfl
          simp [Instr.index, asIntOf, run_underlying ht, h0, hb']
        · cases he
      · cases he
    · cases h
  case h_21 x i ho =>
    obtain ⟨x', hx, rfl⟩ := Option.map_eq_some_iff.1 h
    simp only [I.eval] at he
    split at he
    · rename_i vs hv
      obtain ⟨v, hv', rfl⟩ := bind_pure he
      have h1 := opd_rep r hx
      rw [hv] at h1
      obtain ⟨q, q1, q2⟩ := ext_sound (P := P) h1 hv'
      exact fin_pure r hd (by simp only [execOp, ho]; exact run_v q1) q2 rfl rfl
    · cases he
  case h_22 c ho =>
    unfold compCall at h
    split at h
    · split at h
      · obtain ⟨xs, hx, rfl⟩ := Option.map_eq_some_iff.1 h
        simp [I.eval] at he
      · cases h
    · simp only [Option.bind_eq_some_iff] at h
      obtain ⟨x', hx, h⟩ := h
      obtain ⟨xs, hx, rfl⟩ := Option.map_eq_some_iff.1 h
      simp [I.eval] at he
    · rename_i hc
      split at h
      · rename_i x t ha ht
        split at h
        · rename_i e hu
          obtain ⟨x', hx, rfl⟩ := Option.map_eq_some_iff.1 h
          exact len_case r hd ho hc ha ht hx (fun h => by cases h) (fun _ => ⟨e, hu⟩) he
        · rename_i hu
          obtain ⟨x', hx, rfl⟩ := Option.map_eq_some_iff.1 h
          exact len_case r hd ho hc ha ht hx (fun _ => hu) (fun h => by cases h) he
        · cases h
      · cases h
    · rename_i hc
      split at h
      · rename_i x y t tx ha ht
        split at h
        · rename_i e e' hu hu'
          simp only [Option.bind_eq_some_iff] at h
          obtain ⟨sz, hs, by', hb, zs, hz, h⟩ := h
          split at h
          · rename_i hk
            simp only [Option.bind_eq_some_iff, Option.some.injEq] at h
            obtain ⟨x', hx, y', hy, rfl⟩ := h
            exact app_case r hd ho hc ha ht hx hy hu hu' (elemOk_of hs hb hz hk.1 hk.2) hm he
          · cases h
        · cases h
      · cases h
    · rename_i hc
      split at h
      · rename_i x y ha
        simp only [Option.bind_eq_some_iff, Option.some.injEq] at h
        obtain ⟨x', hx, y', hy, rfl⟩ := h
        exact mm_case (mx := true) r hd ho hc ha hx hy he
      · rename_i x l _ ha
        simp only [Option.bind_eq_some_iff] at h
        obtain ⟨x', hx, h⟩ := h
        obtain ⟨l', hl, rfl⟩ := Option.map_eq_some_iff.1 h
        exact mmn_case (mx := true) (m := m) r hd ho hc ha hx hl he
      · cases h
    · rename_i hc
      split at h
      · rename_i x y ha
        simp only [Option.bind_eq_some_iff, Option.some.injEq] at h
        obtain ⟨x', hx, y', hy, rfl⟩ := h
        exact mm_case (mx := false) r hd ho hc ha hx hy he
      · rename_i x l _ ha
        simp only [Option.bind_eq_some_iff] at h
        obtain ⟨x', hx, h⟩ := h
        obtain ⟨l', hl, rfl⟩ := Option.map_eq_some_iff.1 h
        exact mmn_case (mx := false) (m := m) r hd ho hc ha hx hl he
      · cases h
    · rename_i hc
      split at h
      · rename_i x y t tx ha hat
        split at h
        · rename_i e e' hu hu'
          simp only [Option.bind_eq_some_iff] at h
          obtain ⟨sz, hs, x', hx, h⟩ := h
          obtain ⟨y', hy, rfl⟩ := Option.map_eq_some_iff.1 h
          exact copy_case (m := m) r hd ho hc ha hat hu hu' hs hx hy he
        · injection h with h
          subst h
          cases he
      · injection h with h
        subst h
        cases he
    · injection h with h
      subst h
      cases he
  case h_23 t l c ho =>
    split at h
    · rename_i e hu
      simp only [Option.bind_eq_some_iff] at h
      obtain ⟨inf, hi, zs, hz, h⟩ := h
      split at h
      · rename_i hsz
        simp only [Option.bind_eq_some_iff, Option.map_eq_some_iff] at h
        obtain ⟨l', hl, c', hc, rfl⟩ := h
        simp only [I.eval] at he
        split at he
        · rename_i k a1 k' b1 h1 h2
          split at he
          · rename_i hk
            injection he with he
            subst he
            have e1 := opd_rep r hl
            have e2 := opd_rep r hc
            rw [h1] at e1
            rw [h2] at e2
            have f1 : a.eval l = .int k a1 := by
              generalize a.eval l = u at e1
              cases e1 with
              | fro h => cases h with
                | sc => rfl
            have f2 : a.eval c = .int k' b1 := by
              generalize a.eval c = u at e2
              cases e2 with
              | fro h => cases h with
                | sc => rfl
            unfold zeroOf at hz
            obtain ⟨z, hz1, hz2⟩ := Option.bind_eq_some_iff.1 hz
            obtain ⟨i2, hi2, hz3⟩ := Option.bind_eq_some_iff.1 hz1
            rw [hi] at hi2
            injection hi2 with hi2
            subst hi2
            obtain ⟨u', w', β', q1, q2, q3⟩ := mksl_sound (P := P) r hm hd hu hi hz3 (fun β Z w => zeros_rep hz2) hsz.symm k k' a1 b1 hk.1 hk.2.1 hk.2.2.1 hk.2.2.2
            exact ⟨.value u', w', β', by simp only [execOp, ho]; exact run_v (by rw [f1, f2]; exact q1), .inl ⟨u', rfl, q2⟩, q3⟩
          · cases he
        · cases he
      · cases h
    · injection h with h
      subst h
      cases he
  case h_24 => exact ext_case r hd h hm he


end
end Go.Proofs.YtbmlhmgldipnhabGreatE
