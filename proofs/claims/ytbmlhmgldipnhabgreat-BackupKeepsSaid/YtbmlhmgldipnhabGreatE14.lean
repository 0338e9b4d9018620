/-
  The engine, part 14: an operation of the model that is one of ours does what ours says.
-/
import Derived.Test.YtbmlhmgldipnhabGreatE13
import Derived.WalkSpells
set_option linter.unusedVariables false
set_option linter.unusedSimpArgs false
namespace Go.Proofs.YtbmlhmgldipnhabGreatE
open Go Go.Lib

/-- The operation ends in a state. -/
def Fin (P : Program) (N : Nat) (o : Oper) (β : Places) (Z : Froz) (s : St) (a : Act) (w : World) (s' : St) : Prop :=
  ∃ nx w' β', (execOp a.eval o).run P w = .ok nx w' ∧ ((∃ u, nx = .value u ∧ Rel N β' Z s' (a.put o.dst u) w') ∨ (nx = .skip ∧ Rel N β' Z s' (a.put o.dst undef) w')) ∧ SExt β Z s w β' Z s' w'

section
variable {P : Program} {N : Nat} {β : Places} {Z : Froz} {s : St} {a : Act} {w : World} {o : Oper}

theorem fin_pure (r : Rel N β Z s a w) (hd : ∀ x, o.dst = some x → x < N) {ev : Ev} {u : Value} (hrun : (execOp a.eval o).run P w = .ok (.value u) w) (hv : CRep β Z w ev.v u) (hU : ev.U = []) (hC : ev.C = []) : Fin P N o β Z s a w (s.app o.dst ev) := by
  obtain ⟨v, F, U, C⟩ := ev
  simp only at hU hC hv
  subst hU hC
  rw [St.app_pure]
  exact ⟨_, w, β, hrun, .inl ⟨u, rfl, r.put hv hd⟩, SExt.put _ _⟩

theorem fin_obj {ev : Ev} {u : Value} {w' : World} {β' : Places} (hrun : (execOp a.eval o).run P w = .ok (.value u) w') (h1 : Rel N β' Z (s.app o.dst ev) (a.put o.dst u) w') (h2 : SExt β Z s w β' Z (s.app o.dst ev) w') : Fin P N o β Z s a w (s.app o.dst ev) :=
  ⟨_, w', β', hrun, .inl ⟨u, rfl, h1⟩, h2⟩

theorem some_pure {v : AV} {ev : Ev} (h : (some ⟨v, [], [], []⟩ : Option Ev) = some ev) : ev = ⟨v, [], [], []⟩ := by injection h with h; exact h.symm
theorem bind_pure {q : Option AV} {ev : Ev} (h : q.bind (fun v => (some ⟨v, [], [], []⟩ : Option Ev)) = some ev) : ∃ v, q = some v ∧ ev = ⟨v, [], [], []⟩ := by
  obtain ⟨v, h1, h2⟩ := Option.bind_eq_some_iff.1 h
  exact ⟨v, h1, some_pure h2⟩

theorem cOpds_rep (r : Rel N β Z s a w) : ∀ (xs : List Operand) (ys : List Opd), cOpds xs = some ys → (ys.map s.get).length = ((xs.map a.eval).toArray).size ∧ ∀ (j : Nat) (c : AV), (ys.map s.get)[j]? = some c → CRep β Z w c (((xs.map a.eval).toArray).getD j undef)
  | [], ys, h => by simp only [cOpds, Option.some.injEq] at h; subst h; simp
  | x :: xs, ys, h => by
    simp only [cOpds, Option.bind_eq_some_iff, Option.some.injEq] at h
    obtain ⟨y, hy, q, hq, rfl⟩ := h
    obtain ⟨h1, h2⟩ := cOpds_rep r xs q hq
    refine ⟨by simpa using h1, fun j c hc => ?_⟩
    cases j with
    | zero => simp at hc; subst hc; simpa [Array.getD_eq_getD_getElem?] using opd_rep r hy
    | succ j =>
      have := h2 j c (by simpa using hc)
      simpa [Array.getD_eq_getD_getElem?] using this

theorem places_run {fs : Array Field} {pl : List (Nat × Nat)} (h : placesOf P fs.toList = some pl) (w : World) : (fs.mapM fun f => do pure (f.offset, ← sizeOf f.type) : Sem (Array (Nat × Nat))).run P w = .ok pl.toArray w := by
  rw [Array.mapM_eq_mapM_toList]
  have key : ∀ (l : List Field) (pl : List (Nat × Nat)), placesOf P l = some pl → (l.mapM fun f => do pure (f.offset, ← sizeOf f.type) : Sem (List (Nat × Nat))).run P w = .ok pl w := by
    intro l
    induction l with
    | nil => intro pl h; simp only [placesOf, Option.some.injEq] at h; subst h; simp
    | cons f l ih =>
      intro pl h
      simp only [placesOf, Option.bind_eq_some_iff, Option.some.injEq] at h
      obtain ⟨n, hn, q, hq, rfl⟩ := h
      rw [List.mapM_cons]
      simp only [Sem.run_bind, run_sizeOf' hn, Sem.run_pure, Result.andThen_ok, ih q hq]
  simp only [Sem.run_map, key _ _ h, Result.andThen_ok]

theorem eqnil_sound {t e : TypeId} (ht : P.underlying t = some (.slice e)) {neg : Bool} {x : AV} {u : Value} {ev : Ev} (g : Opd → AV) (ob : Nat → Option Node) (m : Nat) (q : Opd) (hg : g q = x) (hx : CRep β Z w x u) (he : (I.eqnil neg q).eval g ob m = some ev) (ρx ρy : Operand) (fl : Bool) :
    ∃ r, (do eqGuard (if neg then .neq else .eql) t ρx ρy (if fl then .slice none 0 0 else u) (if fl then u else .slice none 0 0); binOp (if neg then .neq else .eql) t (if fl then .slice none 0 0 else u) (if fl then u else .slice none 0 0) : Sem Value).run P w = .ok r w ∧ CRep β Z w ev.v r ∧ ev.U = [] ∧ ev.C = [] := by
  -- what the test says: is it nil
  have key : ∀ b : Bool, (u = .slice none 0 0 ∧ b = true ∨ (∃ ad n c, u = .slice (some ad) n c) ∧ b = false) → ∃ r, (do eqGuard (if neg then .neq else .eql) t ρx ρy (if fl then .slice none 0 0 else u) (if fl then u else .slice none 0 0); binOp (if neg then .neq else .eql) t (if fl then .slice none 0 0 else u) (if fl then u else .slice none 0 0) : Sem Value).run P w = .ok r w ∧ CRep β Z w (.sc (.bool (if neg then !b else b))) r := by
    intro b hb
    refine ⟨.bool (if neg then !b else b), ?_, .fro (.sc _ rfl)⟩
    have hgd : ∀ (op : BinOp) (a1 a2 : Option Addr) (n1 c1 n2 c2 : Nat), (eqGuard op t ρx ρy (.slice a1 n1 c1) (.slice a2 n2 c2)).run P w = .ok () w := fun op a1 a2 n1 c1 n2 c2 => by
      unfold eqGuard
      split <;> simp
    have q1 := fun (ad : Option Addr) (n c : Nat) => Lib.run_eql_slice_nil (P := P) w t e ad n c 0 0 ht
    have q2 := fun (ad : Option Addr) (n c : Nat) => run_neq_slice_nil_any (P := P) w t e ad n c 0 0 ht
    have q3 := fun (ad : Option Addr) (n c : Nat) => run_eql_nil_slice (P := P) w t e ad n c 0 0 ht
    have q4 := fun (ad : Option Addr) (n c : Nat) => run_neq_nil_slice (P := P) w t e ad n c 0 0 ht
    rcases hb with ⟨rfl, rfl⟩ | ⟨⟨ad, n, c, rfl⟩, rfl⟩ <;> cases neg <;> cases fl <;> simp only [if_true, if_false, Bool.false_eq_true, Sem.run_bind, hgd, Result.andThen_ok, q1, q2, q3, q4] <;> rfl
  simp only [I.eval, hg] at he
  split at he
  · rw [some_pure he]
    cases hx with
    | fro hx =>
      cases hx
      obtain ⟨r, h1, h2⟩ := key true (.inl ⟨rfl, rfl⟩)
      exact ⟨r, h1, by cases neg <;> simpa using h2, rfl, rfl⟩
  · rw [some_pure he]
    cases hx with
    | fro hx =>
      cases hx
      obtain ⟨r, h1, h2⟩ := key false (.inr ⟨⟨_, _, _, rfl⟩, rfl⟩)
      exact ⟨r, h1, by cases neg <;> simpa using h2, rfl, rfl⟩
  · rw [some_pure he]
    cases hx with
    | fro hx => cases hx
    | sl =>
      obtain ⟨r, h1, h2⟩ := key false (.inr ⟨⟨_, _, _, rfl⟩, rfl⟩)
      exact ⟨r, h1, by cases neg <;> simpa using h2, rfl, rfl⟩
  · cases he

theorem eqs_sound {t : TypeId} {ks : List Nat} {neg ag : Bool} (hks : eqShape P 20 t = some ks) (hag : agOf P t = some ag) (hgd : ag = true → P.eqGuardType P.depth t = false) {x y : AV} {u v : Value} {b : Bool} (hx : CRep β Z w x u) (hy : CRep β Z w y v) (hxa : x.isAgg = ag) (hya : y.isAgg = ag) (he : scEqs ks x.cells y.cells = some b) (ρx ρy : Operand) :
    ∃ r, (do eqGuard (if neg then .neq else .eql) t ρx ρy u v; binOp (if neg then .neq else .eql) t u v : Sem Value).run P w = .ok r w ∧ CRep β Z w (.sc (.bool (if neg then !b else b))) r := by
  have hone : ∀ (z : AV) (zs : List AV) (ks : List Nat) (b : Bool), scEqs ks zs y.cells = some b ∨ scEqs ks y.cells zs = some b ∨ scEqs ks zs x.cells = some b ∨ scEqs ks x.cells zs = some b → zs.all AV.one = true := by
    intro z zs
    have g : ∀ (ks : List Nat) (as bs : List AV) (b : Bool), scEqs ks as bs = some b → as.all AV.one = true ∧ bs.all AV.one = true := by
      intro ks
      induction ks with
      | nil => intro as bs b h; cases as <;> cases bs <;> simp [scEqs] at h ⊢
      | cons k ks ih =>
        intro as bs b h
        cases as with
        | nil => simp [scEqs] at h
        | cons p as =>
          cases bs with
          | nil => simp [scEqs] at h
          | cons q bs =>
            simp only [scEqs, Option.bind_eq_some_iff] at h
            obtain ⟨x1, h1, y1, h2, _⟩ := h
            obtain ⟨e1, e2⟩ := ih as bs y1 h2
            have : p.one = true ∧ q.one = true := by
              unfold scEq at h1
              split at h1 <;> first | (cases h1; done) | exact ⟨rfl, rfl⟩
            simp [this.1, this.2, e1, e2]
    intro ks b h
    rcases h with h | h | h | h
    · exact (g _ _ _ _ h).1
    · exact (g _ _ _ _ h).2
    · exact (g _ _ _ _ h).1
    · exact (g _ _ _ _ h).2
  have h1 := cells_rep hx (hone x _ ks b (.inl he))
  have h2 := cells_rep hy (hone y _ ks b (.inr (.inr (.inr he))))
  have hq := equalIn_sound (P := P) 20 t ks hks 10000 (by omega) _ _ _ _ b h1 h2 he
  refine ⟨.bool (if neg then !b else b), ?_, .fro (.sc _ rfl)⟩
  cases ag with
  | true =>
    cases x <;> simp [AV.isAgg] at hxa
    cases y <;> simp [AV.isAgg] at hya
    obtain ⟨us, rfl⟩ : ∃ us, u = .agg us := by
      cases hx with
      | fro hx => cases hx; exact ⟨_, rfl⟩
      | agg => exact ⟨_, rfl⟩
    obtain ⟨vs, rfl⟩ : ∃ us, v = .agg us := by
      cases hy with
      | fro hy => cases hy; exact ⟨_, rfl⟩
      | agg => exact ⟨_, rfl⟩
    simp only [valOf, hag, Value.cells, if_true] at hq
    have hgd := hgd rfl
    cases neg <;> simp [run_eqGuard_agg, hgd, binOp, Op.equal, Op.maxDepth, hq]
  | false =>
    have hb : ∀ (z : AV) (q : Value), CRep β Z w z q → z.isAgg = false → z.cells.all AV.one = true → q.cells = #[q] ∧ q.oneCell' = true := fun z q hz hza hz1 => by
      have hz' : z.one = true := by cases z <;> simp_all [AV.cells, AV.isAgg]
      have := hz.oneCell hz'
      exact ⟨by cases q <;> simp_all [Value.cells, Value.oneCell'], this⟩
    obtain ⟨c1, o1⟩ := hb x u hx hxa (hone x _ ks b (.inl he))
    obtain ⟨c2, o2⟩ := hb y v hy hya (hone y _ ks b (.inr (.inr (.inr he))))
    rw [c1, c2] at hq
    simp only [valOf, hag, Option.some.injEq, Bool.false_eq_true, if_false] at hq
    have hq' : (Op.equalIn 10000 t u v).run P w = .ok b w := by simpa [Array.getD_eq_getD_getElem?] using hq
    -- no struct: the guard looks away, the operation asks the same
    have kinds : (∃ k n n', u = .int k n ∧ v = .int k n' ∧ b = (n == n')) ∨ (∃ n n', u = .bool n ∧ v = .bool n') ∨ ∃ n n', u = .string n ∧ v = .string n' ∧ b = (n == n') := by
      have e1 : x.cells = [x] := by cases x <;> simp_all [AV.cells, AV.isAgg]
      have e2 : y.cells = [y] := by cases y <;> simp_all [AV.cells, AV.isAgg]
      rw [e1, e2] at he
      cases ks with
      | nil => simp [scEqs] at he
      | cons k ks =>
        simp only [scEqs, Option.bind_eq_some_iff] at he
        obtain ⟨p, hp, q, hq2, he⟩ := he
        cases ks with
        | cons k2 ks => simp [scEqs] at hq2
        | nil =>
          simp only [scEqs, Option.some.injEq] at hq2 he
          subst hq2
          simp only [Bool.and_true] at he
          subst he
          unfold scEq at hp
          split at hp
          · split at hp
            · rename_i hk
              subst hk
              injection hp with hp
              exact .inl ⟨_, _, _, hx.sc_inv, hy.sc_inv, hp.symm⟩
            · cases hp
          · exact .inr (.inl ⟨_, _, hx.sc_inv, hy.sc_inv⟩)
          · injection hp with hp
            exact .inr (.inr ⟨_, _, hx.sc_inv, hy.sc_inv, hp.symm⟩)
          · cases hp
    rcases kinds with ⟨k, n, n', rfl, rfl, hb'⟩ | ⟨n, n', rfl, rfl⟩ | ⟨n, n', rfl, rfl, hb'⟩
    · subst hb'
      cases neg <;> simp [eqGuard, binOp, Op.intCmp, bne]
    · cases neg <;> simp [eqGuard, binOp, Op.equal, Op.maxDepth, hq']
    · subst hb'
      cases neg <;> simp [eqGuard, binOp, Op.stringOp, beq_toListBytes]

end
end Go.Proofs.YtbmlhmgldipnhabGreatE
