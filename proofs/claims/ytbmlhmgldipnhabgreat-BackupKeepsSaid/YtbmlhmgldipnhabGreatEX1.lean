/-
  The engine, part X1: the further operations do what part 4 says.
-/
import Derived.Test.YtbmlhmgldipnhabGreatE14
import Derived.MapKept
import Derived.Carry
set_option linter.unusedVariables false
set_option linter.unusedSimpArgs false
namespace Go.Proofs.YtbmlhmgldipnhabGreatE
open Go Go.Lib

section
variable {P : Program} {N : Nat} {β : Places} {Z : Froz} {s : St} {a : Act} {w : World} {o : Oper}

theorem run_v {x : Sem Value} {u : Value} {w' : World} (h : x.run P w = .ok u w') : (do pure (Next.value (← x)) : Sem Next).run P w = .ok (.value u) w' := by
  simp only [Sem.run_bind, h, Result.andThen_ok, Sem.run_pure]

/-! ### cuts with a greatest length -/
theorem slc3_sound (r : Rel N β Z s a w) {t e : TypeId} {sz0 : Nat} (ht : P.underlying t = some (.slice e)) (hs : szOf P e = some sz0) {x : AV} {u : Value} {lo : Option Operand} {hi mx : Operand} {lo' : Option Opd} {hi' mx' : Opd} (hlo : cOpt lo = some lo') (hhi : cOpd hi = some hi') (hmx : cOpd mx = some mx') {v : AV}
    (hx : CRep β Z w x u) (he : slcV s.get sz0 x lo' (some hi') = some v) {h0 k n : Nat} (h1 : natOf (s.get hi') = some h0) (h2 : natOf (s.get mx') = some k) (h3 : lenV false x = some (n : Int)) (h4 : h0 ≤ k) (h5 : k ≤ n) :
    ∃ u', (Instr.sliceAt t u (lo.map a.eval) (some (a.eval hi)) (some (a.eval mx))).run P w = .ok u' w ∧ CRep β Z w v u' := by
  have run : ∀ (ad : Option Addr) (len cap l : Nat), boundOf s.get 0 lo' = some l → l ≤ h0 → k ≤ cap →
      (Instr.sliceAt t (.slice ad len cap) (lo.map a.eval) (some (a.eval hi)) (some (a.eval mx))).run P w = .ok (.slice (if k = l then ad else ad.map (·.add (l * sz0))) (h0 - l) (k - l)) w := by
    intro ad len cap l g1 g2 g3
    have e1 : ∀ code, (Instr.sliceBound (a.eval mx) cap code).run P w = .ok k w := fun code => natOf_run (opd_rep r hmx) h2 g3
    have e2 : ∀ code, (Instr.sliceBound (a.eval hi) k code).run P w = .ok h0 w := fun code => natOf_run (opd_rep r hhi) h1 h4
    have e3 : ∀ (code : BoundsCode), ∀ v, lo.map a.eval = some v → (Instr.sliceBound v h0 code).run P w = .ok l w := by
      intro code v hv
      cases lo with
      | none => cases hv
      | some x =>
        simp only [Option.map_some, Option.some.injEq] at hv
        subst hv
        simp only [cOpt] at hlo
        obtain ⟨y, hy, rfl⟩ := Option.map_eq_some_iff.1 hlo
        exact natOf_run (opd_rep r hy) g1 g2
    have hb : (Instr.sliceBounds true len cap (lo.map a.eval) (some (a.eval hi)) (some (a.eval mx))).run P w = .ok (l, h0, k) w := by
      cases lo with
      | none =>
        simp only [cOpt, Option.some.injEq] at hlo
        subst hlo
        simp only [boundOf, Option.some.injEq] at g1
        subst g1
        simp [Instr.sliceBounds, e1, e2]
      | some y => have := e3 .slice3C _ rfl; simp [Instr.sliceBounds, e1, e2, this]
    simp [Instr.sliceAt, run_underlying ht, Instr.slice, hb, run_sizeOf' hs]
  have hbh : ∀ d, boundOf s.get d (some hi') = some h0 := fun d => h1
  unfold slcV at he
  split at he
  · simp only [Option.bind_eq_bind, Option.bind_eq_some_iff] at he
    obtain ⟨h, g1, l, g2, he⟩ := he
    rw [hbh] at g1
    injection g1 with g1
    subst g1
    split at he
    · rename_i hc
      injection he with he
      subst he
      simp only [lenV, Option.some.injEq] at h3
      have hn : n = 0 := by omega
      cases hx with
      | fro hx =>
        cases hx
        refine ⟨_, run none 0 0 l g2 hc.1 (by omega), ?_⟩
        have e1 : l = 0 := by omega
        have e2 : h0 = 0 := by omega
        have e3 : k = 0 := by omega
        subst e1 e2 e3
        exact .fro .nils
    · cases he
  · rename_i sz es
    simp only [Option.bind_eq_bind, Option.bind_eq_some_iff] at he
    obtain ⟨h, g1, l, g2, he⟩ := he
    rw [hbh] at g1
    injection g1 with g1
    subst g1
    simp only [lenV, Option.some.injEq] at h3
    have hn : n = es.length := by omega
    split at he
    · rename_i hc
      obtain ⟨rfl, hc1, hc2⟩ := hc
      injection he with he
      subst he
      cases hx with
      | fro hx =>
        cases hx with
        | fempty _ ad cap =>
          simp only [List.length_nil] at hn hc2
          have e1 : l = 0 := by omega
          have e2 : h0 = 0 := by omega
          have e3 : k = 0 := by omega
          subst e1 e2 e3
          exact ⟨_, run ad 0 cap 0 g2 (by omega) (by omega), by simpa using .fro (.fempty sz _ _)⟩
        | fsl _ _ b o cap f hcap hss hm hr =>
          refine ⟨_, run _ _ cap l g2 hc1 (by omega), ?_⟩
          by_cases e1 : k = l
          · rw [if_pos e1]
            have e2 : h0 = l := by omega
            subst e2
            have e3 : (es.take h0).drop h0 = [] := List.eq_nil_of_length_eq_zero (by rw [List.length_drop, List.length_take]; omega)
            rw [e3, e1, Nat.sub_self]
            exact .fro (.fempty _ _ _)
          · rw [if_neg e1]
            simp only [Option.map_some, add_at]
            have hl : ((es.take h0).drop l).length = h0 - l := by simp; omega
            have hg : ∀ (i : Nat) (e : List AV), ((es.take h0).drop l)[i]? = some e → es[l + i]? = some e ∧ i < h0 - l := fun i e he => by
              have hi : i < h0 - l := by have := (List.getElem?_eq_some_iff.1 he).1; omega
              rw [List.getElem?_drop, List.getElem?_take_of_lt (by omega)] at he
              exact ⟨he, hi⟩
            have hca : ∀ (i j : Nat) (c : AV), cellAt ((es.take h0).drop l) i j = some c → cellAt es (l + i) j = some c := fun i j c hc => by
              obtain ⟨e, q1, q2, _, _⟩ := cellAt_lt hc
              simp [cellAt, (hg i e q1).1, q2]
            have := FRep.fsl (Z := Z) (w := w) sz ((es.take h0).drop l) b (o + l * sz) (k - l) (fun i j => f (l + i) j) (by rw [hl]; omega) (fun i e he => hss _ e (hg i e he).1)
              (fun i j c hc => by
                have := hm _ j c (hca i j c hc)
                rw [Nat.add_mul] at this
                rwa [show o + l * sz + (i * sz + j) = o + (l * sz + i * sz + j) by omega])
              (fun i j c hc => hr _ j c (hca i j c hc))
            rw [hl] at this
            exact .fro this
    · cases he
  · rename_i kk sz i len
    simp only [Option.bind_eq_bind, Option.bind_eq_some_iff] at he
    obtain ⟨h, g1, l, g2, he⟩ := he
    rw [hbh] at g1
    injection g1 with g1
    subst g1
    simp only [lenV, Option.some.injEq] at h3
    have hn : n = len := by omega
    split at he
    · rename_i hc
      obtain ⟨rfl, hc1, hc2⟩ := hc
      injection he with he
      subst he
      cases hx with
      | fro hx => cases hx
      | slE _ _ _ ad =>
        have e1 : l = 0 := by omega
        have e2 : h0 = 0 := by omega
        have e3 : k = 0 := by omega
        subst e1 e2 e3
        refine ⟨_, run ad 0 0 0 g2 (by omega) (by omega), ?_⟩
        simpa using CRep.slE kk sz i ad
      | sl _ _ _ _ b o cap hb hcap hsh =>
        refine ⟨_, run _ _ cap l g2 hc1 (by omega), ?_⟩
        by_cases e1 : k = l
        · rw [if_pos e1]
          have e2 : h0 = l := by omega
          subst e2
          rw [e1, Nat.sub_self]
          exact .slE kk sz _ _
        · rw [if_neg e1]
          simp only [Option.map_some, add_at]
          obtain ⟨ty, nn, q1, q2⟩ := hsh
          have hm : (l + (k - l)) * sz ≤ cap * sz := Nat.mul_le_mul_right _ (by omega)
          rw [Nat.add_mul] at hm
          have := CRep.sl (Z := Z) kk sz (i + l) (h0 - l) b o (k - l) hb (by omega) ⟨ty, nn, q1, by rw [Nat.add_mul]; omega⟩
          rwa [Nat.add_mul, ← Nat.add_assoc] at this
    · cases he
  · cases he

/-! ### arrays -/
theorem arr_bounds (r : Rel N β Z s a w) {n : Nat} {lo hi : Option Operand} {lo' hi' : Option Opd} {l h : Nat} (hlo : cOpt lo = some lo') (hhi : cOpt hi = some hi') (h1 : boundOf s.get n hi' = some h) (h2 : boundOf s.get 0 lo' = some l) (h3 : l ≤ h) (h4 : h ≤ n) {t e : TypeId} {sz : Nat} (ht : P.underlying t = some (.array n e)) (hs : szOf P e = some sz) (ad : Addr) :
    (Instr.sliceAt t (.pointer (some ad)) (lo.map a.eval) (hi.map a.eval) none).run P w = .ok (.slice (some (if n = l then ad else ad.add (l * sz))) (h - l) (n - l)) w := by
  have := bounds_run (P := P) r (isS := false) hlo hhi h1 h2 h3 h4
  simp [Instr.sliceAt, run_underlying ht, Instr.sureAddr, this, run_sizeOf' hs]

theorem row_shape {β : Places} {Z : Froz} {w : World} {k z : Nat} {es : List (List AV)} {nd : Node} (hn : nd = .row z es ∨ nd = .arow z es) (h : NRep β Z w k nd) {b o : Nat} (hb : β k = some (b, o)) : ∃ t n, w.shape? b = some (t, n) ∧ o + es.length * z ≤ n := by
  rcases node_row hn h with ⟨rfl, h0⟩ | ⟨b', o', hb', arr, t, g1, g2, _⟩
  · rw [hb] at h0; cases h0
  · rw [hb] at hb'
    injection hb' with hb'
    injection hb' with e1 e2
    subst e1 e2
    exact ⟨t, arr.size, by simp [World.shape?, g1], g2⟩

theorem aslc_sl (r : Rel N β Z s a w) {n sz k z i off z' l h b o : Nat} {es : List (List AV)} {nd : Node} (hn : nd = .row z' es ∨ nd = .arow z' es) (hob : s.ob k = some nd) (hb : β k = some (b, o)) (hd : (i * z + off) % sz = 0) (hsz : 0 < sz) (hfit : i * z + off + n * sz ≤ es.length * z') (hl : l ≤ h) (hh : h ≤ n) :
    CRep β Z w (.sl k sz ((i * z + off) / sz + l) (h - l)) (.slice (some (if n = l then ⟨b, o + i * z + off, none⟩ else (Addr.add ⟨b, o + i * z + off, none⟩ (l * sz)))) (h - l) (n - l)) := by
  obtain ⟨t, m, g1, g2⟩ := row_shape hn (r.node k nd hob) hb
  have hq : (i * z + off) / sz * sz = i * z + off := Nat.div_mul_cancel (Nat.dvd_of_mod_eq_zero hd)
  by_cases e1 : n = l
  · have e2 : h = l := by omega
    subst e2
    rw [if_pos e1, e1, Nat.sub_self]
    exact .slE k sz _ _
  · rw [if_neg e1, add_at]
    have hm : (l + (n - l)) * sz = n * sz := by congr 1; omega
    rw [Nat.add_mul] at hm
    have := CRep.sl (Z := Z) (w := w) k sz ((i * z + off) / sz + l) (h - l) b o (n - l) hb (by omega) ⟨t, m, g1, by rw [Nat.add_mul, hq]; omega⟩
    rw [Nat.add_mul, hq] at this
    rwa [show o + (i * z + off + l * sz) = o + i * z + off + l * sz by omega] at this

theorem aidx_run {t e : TypeId} {n sz : Nat} (ht : P.underlying t = some (.array n e)) (hs : szOf P e = some sz) {q : Int} {k : IntKind} (h0 : 0 ≤ q) (h1 : q < n) (ad : Addr) : (Instr.indexAt t (.pointer (some ad)) (.int k q)).run P w = .ok (.pointer (some (ad.add (q.toNat * sz)))) w := by
  simp [Instr.indexAt, asIntOf, run_underlying ht, Instr.sureAddr, run_sizeOf' hs, h0, h1]

/-! ### the greatest, the least of some -/
theorem mm2_sound {mx : Bool} {x y v : AV} {u q : Value} (hx : CRep β Z w x u) (hy : CRep β Z w y q) (h : mm2 mx x y = some v) : ∃ u', ((if mx then Builtin.max2 else Builtin.min2) u q).run P w = .ok u' w ∧ CRep β Z w v u' := by
  unfold mm2 at h
  split at h
  · rename_i k a1 k' b1
    injection h with h
    subst h
    rw [hx.sc_inv, hy.sc_inv]
    refine ⟨.int k (if mx then (if b1 > a1 then b1 else a1) else (if b1 < a1 then b1 else a1)), ?_, .fro (.sc _ rfl)⟩
    cases mx <;> simp [Builtin.max2, Builtin.min2]
  · cases h
theorem mmF_sound (r : Rel N β Z s a w) {mx : Bool} : ∀ (xs : List Operand) (ys : List Opd) (x v : AV) (u : Value), cOpds xs = some ys → CRep β Z w x u → mmF mx s.get x ys = some v → ∃ u', ((xs.map a.eval).foldlM (if mx then Builtin.max2 else Builtin.min2) u).run P w = .ok u' w ∧ CRep β Z w v u'
  | [], ys, x, v, u, hc, hx, h => by
    simp only [cOpds, Option.some.injEq] at hc
    subst hc
    simp only [mmF, Option.some.injEq] at h
    subst h
    exact ⟨u, by simp, hx⟩
  | y :: xs, ys, x, v, u, hc, hx, h => by
    simp only [cOpds, Option.bind_eq_some_iff, Option.some.injEq] at hc
    obtain ⟨y', hy, q, hq, rfl⟩ := hc
    simp only [mmF, Option.bind_eq_some_iff] at h
    obtain ⟨v1, h1, h2⟩ := h
    obtain ⟨u1, g1, g2⟩ := mm2_sound (P := P) hx (opd_rep r hy) h1
    obtain ⟨u2, g3, g4⟩ := mmF_sound r xs q v1 v u1 hq g2 h2
    refine ⟨u2, ?_, g4⟩
    rw [List.map_cons, List.foldlM_cons]
    simp only [Sem.run_bind, g1, Result.andThen_ok, g3]

/-! ### maps -/
theorem Rel.mapTurn {w' : World} {b : Nat} {ents ents' : Array MapEntry} {c c' : Nat} (r : Rel N β Z s a w) {k : Nat} {nd0 nd : Node} (hk : s.ob k = some nd0) (hb : β k = some (b, 0)) (hwas : w.heap[b]? = some (.map ents c)) (hnow : w'.heap = w.heap.setIfInBounds b (.map ents' c')) (h1 : w'.os = w.os) (h2 : w'.tape = w.tape) (h3 : w'.output = w.output) (hz : ¬ Z b 0)
    (hn : Keeps Z w Z w' → NRep β Z w' k nd) : Rel N β Z (s.upd k nd) a w' ∧ SExt β Z s w β Z (s.upd k nd) w' := by
  have hother : ∀ x, x ≠ b → w'.heap[x]? = w.heap[x]? := fun x hx => by rw [hnow, Array.getElem?_setIfInBounds]; simp [Ne.symm hx]
  have hsize : w'.heap.size = w.heap.size := by rw [hnow]; simp
  have kp : Keeps Z w Z w' := ⟨fun _ _ h => h, fun x y v h hv => by
      have : x ≠ b := fun e => by subst e; unfold World.cellOf World.cell? at hv; simp [hwas] at hv
      unfold World.cellOf World.cell? at *; rwa [hother x this], fun x es cc h hm => by
      have : x ≠ b := fun e => hz (by rw [← e]; exact h)
      rwa [hother x this], fun x sh hs => by
      unfold World.shape? at *
      by_cases e : x = b
      · subst e; rw [hwas] at hs; cases hs
      · rwa [hother x e]⟩
  have hob : ∀ j nd', (s.upd k nd).ob j = some nd' → ∃ nd1, s.ob j = some nd1 := fun j nd' hj => by
    rw [St.upd_ob] at hj
    by_cases e : j = k
    · subst e; exact ⟨_, hk⟩
    · simp [e] at hj; exact ⟨_, hj⟩
  refine ⟨⟨⟨?_, ?_, ?_, ?_, r.names⟩, ?_, r.size, r.defers⟩, ⟨h1, h2, h3, by rw [hsize]; exact Nat.le_refl _, kp, ?_, fun _ _ _ h => .inl h, ?_, fun k _ hk => ⟨rfl, hk⟩⟩⟩
  · intro j nd' hj
    rw [St.upd_ob] at hj
    by_cases e : j = k
    · subst e
      simp at hj
      subst hj
      exact hn kp
    · simp [e] at hj
      refine (r.node j nd' hj).on kp (fun _ _ h => h) rfl fun b' o' hb' => ⟨hother _ ?_, fun _ z => z⟩
      intro e3
      subst e3
      exact e (r.inj _ _ _ _ _ _ _ hj hk hb' hb)
  · intro j j' nd1 nd2 b1 o1 o2 g1 g2 g3 g4
    obtain ⟨_, g1⟩ := hob _ _ g1
    obtain ⟨_, g2⟩ := hob _ _ g2
    exact r.inj _ _ _ _ _ _ _ g1 g2 g3 g4
  · intro c x hz'
    rw [hsize]
    exact r.froz c x hz'
  · intro j c x hj
    rw [hsize]
    exact r.dom _ _ _ hj
  · intro t' v' ht
    exact (r.env t' v' ht).keeps kp fun _ _ h => h
  · intro c hc ho
    refine hother c ?_
    intro e
    subst e
    exact ho ⟨k, nd0, 0, hk, hb⟩
  · intro c hc ⟨j, nd', o', g1, g2⟩
    obtain ⟨nd1, g1⟩ := hob _ _ g1
    exact ⟨j, nd1, o', g1, g2⟩

/-! ### copies -/
theorem Flat.splice {R : AV → Value → Prop} {sz : Nat} {es ys : List (List AV)} {f g h : Nat → Value} (hf : Flat R sz es f) (hh : Flat R sz ys h) {i : Nat} (hi : i + ys.length ≤ es.length)
    (h1 : ∀ x, x < i * sz → g x = f x) (h2 : ∀ x, x < ys.length * sz → g (i * sz + x) = h x) (h3 : ∀ x, i * sz + ys.length * sz ≤ x → x < es.length * sz → g x = f x) : Flat R sz (es.take i ++ ys ++ es.drop (i + ys.length)) g := by
  have hl : (es.take i ++ ys ++ es.drop (i + ys.length)).length = es.length := by simp; omega
  have hit : ∀ j e, (es.take i ++ ys ++ es.drop (i + ys.length))[j]? = some e → (j < i ∧ es[j]? = some e) ∨ (i ≤ j ∧ j < i + ys.length ∧ ys[j - i]? = some e) ∨ (i + ys.length ≤ j ∧ es[j]? = some e) := fun j e he => by
    by_cases a1 : j < i
    · rw [List.append_assoc, List.getElem?_append_left (by simp; omega), List.getElem?_take_of_lt a1] at he
      exact .inl ⟨a1, he⟩
    · by_cases a2 : j < i + ys.length
      · rw [List.append_assoc, List.getElem?_append_right (by simp; omega), List.getElem?_append_left (by simp; omega)] at he
        refine .inr (.inl ⟨by omega, a2, ?_⟩)
        rwa [show j - i = j - (es.take i).length by simp; omega]
      · rw [List.getElem?_append_right (by simp; omega), List.getElem?_drop] at he
        refine .inr (.inr ⟨by omega, ?_⟩)
        rwa [show i + ys.length + (j - (es.take i ++ ys).length) = j by simp; omega] at he
  refine ⟨fun j e he => ?_, fun j p c hc => ?_, fun x hx => ?_⟩
  · rcases hit j e he with ⟨_, h⟩ | ⟨_, _, h⟩ | ⟨_, h⟩
    · exact hf.size j e h
    · exact hh.size _ e h
    · exact hf.size j e h
  · obtain ⟨e, q1, q2, q3, q4⟩ := cellAt_lt hc
    rcases hit j e q1 with ⟨a1, h⟩ | ⟨a1, a2, h⟩ | ⟨a1, h⟩
    · have hp : p < sz := by rw [← hf.size j e h]; exact q4
      rw [h1 _ (mul_lt_row a1 hp)]
      exact hf.rep j p c (by simp [cellAt, h, q2])
    · have hp : p < sz := by rw [← hh.size _ e h]; exact q4
      have hj : j - i < ys.length := by omega
      have hx := mul_lt_row (sz := sz) hj hp
      have he : j * sz + p = i * sz + ((j - i) * sz + p) := by
        have : j * sz = i * sz + (j - i) * sz := by rw [← Nat.add_mul]; congr 1; omega
        omega
      rw [he, h2 _ hx]
      exact hh.rep (j - i) p c (by simp [cellAt, h, q2])
    · have hp : p < sz := by rw [← hf.size j e h]; exact q4
      have hj : j < es.length := (List.getElem?_eq_some_iff.1 h).1
      have h5 := Nat.mul_le_mul_right sz a1
      rw [Nat.add_mul] at h5
      rw [h3 _ (by omega) (mul_lt_row hj hp)]
      exact hf.rep j p c (by simp [cellAt, h, q2])
  · rw [hl] at hx
    by_cases a1 : x < i * sz
    · rw [h1 x a1]; exact hf.one x hx
    · by_cases a2 : x < i * sz + ys.length * sz
      · have := h2 (x - i * sz) (by omega)
        rw [show i * sz + (x - i * sz) = x by omega] at this
        rw [this]
        exact hh.one _ (by omega)
      · rw [h3 x (by omega) hx]; exact hf.one x hx

theorem copy_sound (r : Rel N β Z s a w) {d : Option Nat} (hd : ∀ x, d = some x → x < N) {t tx ty e e' : TypeId} {sz : Nat} (ht : P.underlying t = some (.slice e)) (hk : P.underlying tx = some (.slice e')) (hs : szOf P e = some sz) {x y : Opd} {u q : Value} (hx : CRep β Z w (s.get x) u) (hy : CRep β Z w (s.get y) q)
    {m : Nat} {ev : Ev} (he : (X.copy sz x y).eval s.get s.ob m = some ev) :
    ∃ u' w', (Builtin.copy_ #[t, tx] ty #[u, q]).run P w = .ok u' w' ∧ Rel N β Z (s.app d ev) (a.put d u') w' ∧ SExt β Z s w β Z (s.app d ev) w' := by
  simp only [X.eval] at he
  split at he
  · rename_i ys hsrc
    obtain ⟨news, hS, hF⟩ := src_sound (P := P) r.toObjs hk hy hsrc
    have none' : ∀ (ad : Option Addr) (dl dc : Nat) (F : List Nat), u = .slice ad dl dc → ys.1.length = 0 → ev = ⟨.sc (.int .i64 0), F, [], []⟩ → ∃ u' w', (Builtin.copy_ #[t, tx] ty #[u, q]).run P w = .ok u' w' ∧ Rel N β Z (s.app d ev) (a.put d u') w' ∧ SExt β Z s w β Z (s.app d ev) w' := fun ad dl dc F e1 e2 e3 => by
      subst e1 e3
      have hn0 : news = [] := List.eq_nil_of_length_eq_zero (by rw [hS.newsLen, e2]; simp)
      have hl := hS.len w
      have hcl := hS.cells
      rw [e2] at hl hcl
      have hsz : ∀ w', (sizeOf e).run P w' = .ok sz w' := fun w' => run_sizeOf' hs w'
      refine ⟨.int .i64 0, w, ?_, ?_, ?_⟩
      · cases ad <;> simp [Builtin.copy_, run_underlying ht, hl, hsz, hcl, hn0, storeCells, goInt]
      · rw [St.app_pure]; exact r.put (.fro (.sc _ rfl)) hd
      · rw [St.app_pure]; exact SExt.put _ _
    split at he
    · rename_i hxv
      rw [hxv] at hx
      split at he
      · rename_i h0
        injection he with he
        cases hx with
        | fro hx => cases hx; exact none' none 0 0 _ rfl h0 he.symm
      · cases he
    rename_i k z i len hxv
    · rw [hxv] at hx
      split at he
      · rename_i h0
        injection he with he
        cases hx with
        | fro hx => cases hx
        | slE _ _ _ ad => exact none' ad 0 0 _ rfl h0 he.symm
        | sl => exact none' _ _ _ _ rfl h0 he.symm
      rename_i hpos
      split at he
      · rename_i hc
        obtain ⟨rfl, hlen⟩ := hc
        have fin : ∀ (es : List (List AV)) (nd nd' : Node), s.ob k = some nd → (nd = .row z es ∨ nd = .arow z es) → i + len ≤ es.length →
            (∀ b o w', β k = some (b, o) → Keeps Z w Z w' → (∀ arr t, w'.heap[b]? = some (.cells arr t (0, 0)) → o + es.length * z ≤ arr.size → (∀ x, x < arr.size → (arr.getD x undef).oneCell' = true) → Flat (CRep β Z w) z (es.take i ++ ys.1 ++ es.drop (i + ys.1.length)) (fun x => arr.getD (o + x) undef) → (∀ x, o ≤ x → ¬ Z b x) → NRep β Z w' k nd')) →
            ∃ u' w', (Builtin.copy_ #[t, tx] ty #[u, q]).run P w = .ok u' w' ∧ Rel N β Z (s.app d ⟨.sc (.int .i64 ys.1.length), k :: ys.2, [(k, some nd')], []⟩) (a.put d u') w' ∧ SExt β Z s w β Z (s.app d ⟨.sc (.int .i64 ys.1.length), k :: ys.2, [(k, some nd')], []⟩) w' := by
          intro es nd nd' hob hnd hi hmk
          have happ : s.app d ⟨.sc (.int .i64 ys.1.length), k :: ys.2, [(k, some nd')], []⟩ = (s.upd k nd').put d (.sc (.int .i64 ys.1.length)) := by cases d <;> rfl
          rw [happ]
          have close : ∀ w', (Builtin.copy_ #[t, tx] ty #[u, q]).run P w = .ok (.int .i64 ys.1.length) w' → Rel N β Z (s.upd k nd') a w' → SExt β Z s w β Z (s.upd k nd') w' → ∃ u' w', (Builtin.copy_ #[t, tx] ty #[u, q]).run P w = .ok u' w' ∧ Rel N β Z ((s.upd k nd').put d (.sc (.int .i64 ys.1.length))) (a.put d u') w' ∧ SExt β Z s w β Z ((s.upd k nd').put d (.sc (.int .i64 ys.1.length))) w' := fun w' h1 h2 h3 =>
            ⟨_, w', h1, h2.put (.fro (.sc _ rfl)) hd, h3.trans (SExt.put _ _)⟩
          have hsz : ∀ w', (sizeOf e).run P w' = .ok z w' := fun w' => run_sizeOf' hs w'
          cases hx with
          | fro hx => cases hx
          | slE _ _ _ ad => omega
          | sl _ _ _ _ b o cap hb hcap hsh =>
            rcases node_row hnd (r.node k nd hob) with ⟨h1, hno⟩ | ⟨b', o', hb', hrow⟩
            · rw [hb] at hno; cases hno
            · rw [hb] at hb'
              injection hb' with hb'
              injection hb' with e1 e2
              subst e1 e2
              obtain ⟨arr, ty', g1, g2, g3, g4, g5⟩ := hrow.flat
              have hnl := hS.newsLen
              have hil : (i + len) * z ≤ es.length * z := Nat.mul_le_mul_right _ hi
              have hyl : ys.1.length * z ≤ len * z := Nat.mul_le_mul_right _ hlen
              rw [Nat.add_mul] at hil
              have hfit : o + i * z + news.length ≤ arr.size := by omega
              have hst := run_storeCells_at P b (o + i * z) ty' news 0 arr w g1 (by simpa using hfit) hS.one
              simp only [Nat.add_zero] at hst
              have hsp := splice_getD arr news (o + i * z)
              have hss := splice_size arr news _ hfit
              generalize hA : (arr.toList.take (o + i * z) ++ news ++ arr.toList.drop (o + i * z + news.length)).toArray = arr' at hst hsp hss
              have htn := setRow_turned (o := o) g1 hss (fun p hp => by rw [hsp p hfit, if_pos (by omega)])
              have hone : ∀ p, p < arr'.size → (arr'.getD p undef).oneCell' = true := fun p hp => by
                rw [hsp p hfit]
                by_cases l : p < o + i * z
                · rw [if_pos l]; exact g5 p (by omega)
                · rw [if_neg l]
                  by_cases l2 : p < o + i * z + news.length
                  · rw [if_pos l2]; exact hF.one _ (by omega)
                  · rw [if_neg l2]; exact g5 p (by omega)
              have hflat : Flat (CRep β Z w) z (es.take i ++ ys.1 ++ es.drop (i + ys.1.length)) (fun x => arr'.getD (o + x) undef) := by
                refine Flat.splice g3 hF (by omega) (fun p hp => ?_) (fun p hp => ?_) (fun p hp hp' => ?_)
                · rw [hsp _ hfit, if_pos (by omega)]
                · rw [hsp _ hfit, if_neg (by omega), if_pos (by omega)]; congr 2; omega
                · rw [hsp _ hfit, if_neg (by omega), if_neg (by omega)]
              obtain ⟨h1, h2⟩ := r.store hob hb htn g4 (hmk b o _ hb (htn.keeps g4) arr' ty' htn.now (by omega) hone hflat g4)
              refine close _ ?_ h1 h2
              have hl := hS.len w
              simp [Builtin.copy_, run_underlying ht, hl, hsz, Nat.min_eq_left hlen, hS.cells, hst, goInt]
        split at he
        · rename_i z' es hob
          split at he
          · rename_i hq
            obtain ⟨hzz, hq1, hq2⟩ := hq
            have hzz := hzz.symm
            subst hzz
            injection he with he
            subst he
            refine fin es _ _ hob (.inl rfl) hq1 fun b o w' hb kp arr t g1 g2 g3 g4 g5 => .inr ⟨b, o, hb, ?_⟩
            rcases r.node k _ hob with ⟨h1, hno⟩ | ⟨b', o', hb', hrow⟩
            · rw [hb] at hno; cases hno
            · obtain ⟨arr0, t0, f1, f2, f3, f4, f5⟩ := RowRep.flat hrow
              have hl : (es.take i ++ ys.1 ++ es.drop (i + ys.1.length)).length = es.length := by simp; omega
              refine RowRep.of g1 (by rw [hl]; exact g2) ⟨g4.size, fun j p c hc => ?_, g4.one⟩ g5 g3
              have hcr := g4.rep j p c hc
              obtain ⟨e2, q1, q2, _, _⟩ := cellAt_lt hc
              have hmem := List.mem_of_getElem? q1
              rw [List.mem_append, List.mem_append] at hmem
              have inold : e2 ∈ es → FRep Z w' c (arr.getD (o + (j * z + p)) undef) := fun hin => by
                obtain ⟨j2, hj2⟩ := List.getElem?_of_mem hin
                have hf := f3.rep j2 p c (by simp [cellAt, hj2, q2])
                exact (hcr.frozen_of hf).keeps kp
              rcases hmem with (hmem | hmem) | hmem
              · exact inold (List.mem_of_mem_take hmem)
              · have := List.all_eq_true.1 (List.all_eq_true.1 hq2 e2 hmem) c (List.mem_of_getElem? q2)
                simp only [AV.plain, Bool.and_eq_true] at this
                exact (hcr.frozen this.2).keeps kp
              · exact inold (List.mem_of_mem_drop hmem)
          · cases he
        · rename_i z' es hob
          split at he
          · rename_i hq
            obtain ⟨hzz, hq1⟩ := hq
            have hzz := hzz.symm
            subst hzz
            injection he with he
            subst he
            refine fin es _ _ hob (.inr rfl) hq1 fun b o w' hb kp arr t g1 g2 g3 g4 g5 => ⟨b, o, hb, ?_⟩
            have hl : (es.take i ++ ys.1 ++ es.drop (i + ys.1.length)).length = es.length := by simp; omega
            exact RowRep.of g1 (by rw [hl]; exact g2) (g4.imp (fun _ _ => rfl) fun c u hc => hc.keeps kp fun _ _ h => h) g5 g3
          · cases he
        · cases he
      · cases he
    · cases he
  · cases he

end
end Go.Proofs.YtbmlhmgldipnhabGreatE
