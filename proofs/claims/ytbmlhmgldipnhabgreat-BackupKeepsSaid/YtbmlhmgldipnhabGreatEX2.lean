/-
  The engine, part X2: the further operations, as they are compiled.
-/
import Derived.Test.YtbmlhmgldipnhabGreatEX1
set_option linter.unusedVariables false
set_option linter.unusedSimpArgs false
namespace Go.Proofs.YtbmlhmgldipnhabGreatE
open Go Go.Lib

section
variable {P : Program} {N : Nat} {β : Places} {Z : Froz} {s : St} {a : Act} {w : World} {o : Oper}

/-- The types of a map's keys that are taken here. -/
def KeyT (td : TypeDesc) (kd : Nat) : Prop := td = .bool ∧ kd = 0 ∨ td = .string ∧ kd = 1 ∨ ∃ k, td = .int k ∧ kd = 2

theorem keyKind_spec {t : TypeId} {kd : Nat} (h : keyKind P t = some kd) : ∃ td, P.underlying t = some td ∧ KeyT td kd := by
  unfold keyKind at h
  split at h
  · rename_i k ht; injection h with h; exact ⟨_, ht, .inr (.inr ⟨k, rfl, h.symm⟩)⟩
  · rename_i ht; injection h with h; exact ⟨_, ht, .inl ⟨rfl, h.symm⟩⟩
  · rename_i ht; injection h with h; exact ⟨_, ht, .inr (.inl ⟨rfl, h.symm⟩)⟩
  · cases h

theorem run_checkKey' {kt : TypeId} {td : TypeDesc} {kd : Nat} (hd : P.underlying kt = some td) (hk : KeyT td kd) (e : Bool) (n : Nat) (k : Value) : (Instr.checkKey e (n + 1) kt k).run P w = .ok () w := by
  unfold Instr.checkKey
  simp only [Sem.run_bind, run_underlying hd, Result.andThen]
  rcases hk with ⟨rfl, _⟩ | ⟨rfl, _⟩ | ⟨kk, rfl, _⟩ <;> cases k <;> simp

theorem isKey_bits {kd : Nat} {v : AV} {u : Value} (hv : CRep β Z w v u) (h : v.isKey kd = true) (n : Nat) : Instr.sameBits n u u = true := by
  unfold AV.isKey at h
  split at h
  · rw [hv.sc_inv]; simp [Instr.sameBits]
  · rw [hv.sc_inv]; simp [Instr.sameBits]
  · rw [hv.sc_inv]; simp [Instr.sameBits, MapKept.bytes_beq]
  · cases h

theorem sameNow_sound {td : TypeDesc} {kd : Nat} (hk : KeyT td kd) {x y : AV} {u q : Value} {b : Bool} (hx : CRep β Z w x u) (hy : FRep Z w y q) (h : scEq kd x y = some b) : Instr.sameNow td u q = some b ∧ (b = true → q = u) := by
  have hy : CRep β Z w y q := .fro hy
  unfold scEq at h
  split at h
  · rcases hk with ⟨_, e⟩ | ⟨_, e⟩ | ⟨k, rfl, _⟩
    · cases e
    · cases e
    · rw [hx.sc_inv, hy.sc_inv]
      refine ⟨h, fun hb => ?_⟩
      subst hb
      split at h
      · rename_i e
        subst e
        simp only [Option.some.injEq, beq_iff_eq] at h
        rw [h]
      · cases h
  · rcases hk with ⟨rfl, _⟩ | ⟨_, e⟩ | ⟨k, _, e⟩
    · rw [hx.sc_inv, hy.sc_inv]
      refine ⟨h, fun hb => ?_⟩
      subst hb
      simp only [Option.some.injEq, beq_iff_eq] at h
      rw [h]
    · cases e
    · cases e
  · rcases hk with ⟨_, e⟩ | ⟨rfl, _⟩ | ⟨k, _, e⟩
    · cases e
    · rw [hx.sc_inv, hy.sc_inv]
      refine ⟨h, fun hb => ?_⟩
      subst hb
      simp only [Option.some.injEq] at h
      rw [(MapKept.bytes_beq _ _).1 h]
    · cases e
  · cases h

/-- What stands in a map. -/
def EntsRep (Z : Froz) (w : World) (es : List (AV × AV)) (ents : List MapEntry) : Prop := es.length = ents.length ∧ ∀ (i : Nat) (p : AV × AV), es[i]? = some p → ∃ e, ents[i]? = some e ∧ FRep Z w p.1 e.key ∧ FRep Z w p.2 e.val

theorem findA_sound {td : TypeDesc} {kd : Nat} (hk : KeyT td kd) {key : AV} {u : Value} (hu : CRep β Z w key u) : ∀ (es : List (AV × AV)) (ents : List MapEntry) (i : Nat) (r : Option (Nat × AV)), EntsRep Z w es ents → findA kd key es i = some r →
    ∃ r', Instr.findNow td u ents i = some r' ∧ match r with | none => r' = none | some (j, v) => ∃ e n, j = i + n ∧ r' = some (j, e.val) ∧ ents[n]? = some e ∧ FRep Z w v e.val ∧ e.key = u
  | [], ents, i, r, he, h => by
    simp only [findA, Option.some.injEq] at h
    subst h
    have : ents = [] := List.eq_nil_of_length_eq_zero he.1.symm
    subst this
    exact ⟨none, rfl, rfl⟩
  | p :: es, [], i, r, he, h => by have := he.1; simp at this
  | p :: es, e :: ents, i, r, he, h => by
    obtain ⟨e', h1, h2, h3⟩ := he.2 0 p rfl
    simp only [List.getElem?_cons_zero, Option.some.injEq] at h1
    subst h1
    simp only [findA] at h
    split at h
    · rename_i hs
      obtain ⟨g1, g2⟩ := sameNow_sound hk hu h2 hs
      simp only [Option.some.injEq] at h
      subst h
      exact ⟨some (i, e.val), by simp [Instr.findNow, g1], e, 0, rfl, rfl, rfl, h3, g2 rfl⟩
    · rename_i hs
      obtain ⟨g1, _⟩ := sameNow_sound hk hu h2 hs
      have he' : EntsRep Z w es ents := ⟨by have := he.1; simpa using this, fun j q hq => by
        obtain ⟨e2, q1, q2, q3⟩ := he.2 (j + 1) q (by simpa using hq)
        exact ⟨e2, by simpa using q1, q2, q3⟩⟩
      obtain ⟨r', q1, q2⟩ := findA_sound hk hu es ents (i + 1) r he' h
      refine ⟨r', by simp [Instr.findNow, g1, q1], ?_⟩
      cases r with
      | none => exact q2
      | some x =>
        obtain ⟨j, v⟩ := x
        obtain ⟨e2, n, a1, a2, a3, a4, a5⟩ := q2
        exact ⟨e2, n + 1, by omega, a2, by simpa using a3, a4, a5⟩
    · cases h

theorem zeroS_run {t : TypeId} {z : AV} (h : zeroS P t = some z) : ∃ u, z = .sc u ∧ u.oneCell' = true ∧ ∀ w, (zeroValue t).run P w = .ok u w := by
  unfold zeroS at h
  obtain ⟨q, hq, h⟩ := Option.bind_eq_some_iff.1 h
  obtain ⟨i, hi, hz⟩ := Option.bind_eq_some_iff.1 hq
  split at h <;> first | (cases h; done) | (injection h with h; subst h; exact ⟨_, rfl, rfl, fun w => by simp [zeroValue, typeInfo, hi, hz]⟩)

theorem map_inv (r : Rel N β Z s a w) {k : Nat} {es : List (AV × AV)} (hob : s.ob k = some (.map es)) {u : Value} (hu : CRep β Z w (.mp k) u) : ∃ b ents clock, β k = some (b, 0) ∧ u = .map (some b) ∧ w.heap[b]? = some (.map ents clock) ∧ ¬ Z b 0 ∧ EntsRep Z w es ents.toList := by
  cases hu with
  | fro hu => cases hu
  | mp _ b o hb =>
    obtain ⟨b', ents, clock, h1, h2, h3, h5, h4⟩ := r.node k _ hob
    rw [hb] at h1
    injection h1 with h1
    injection h1 with e1 e2
    subst e1 e2
    exact ⟨b, ents, clock, hb, rfl, h2, h5, by simpa using h3, fun i p hp => by
      obtain ⟨e, q1, q2, q3⟩ := h4 i p hp
      exact ⟨e, by simpa using q1, q2, q3⟩⟩

theorem X_sound (r : Rel N β Z s a w) (hd : ∀ x, o.dst = some x → x < N) {x : X} (h : compX P o = some x) {m : Nat} (hm : m ∉ s.nm) {ev : Ev} (he : x.eval s.get s.ob m = some ev) : Fin P N o β Z s a w (s.app o.dst ev) := by
  unfold compX at h
  split at h
  · rename_i t x lo hi mx ho
    split at h
    · rename_i e ht
      simp only [Option.bind_eq_some_iff] at h
      obtain ⟨sz, hs, x', hx, lo', hlo, hi', hhi, h⟩ := h
      obtain ⟨mx', hmx, rfl⟩ := Option.map_eq_some_iff.1 h
      simp only [X.eval] at he
      split at he
      · rename_i v h0 k n g1 g2 g3 g4
        split at he
        · rename_i hc
          injection he with he
          subst he
          have hn : ∃ n' : Nat, n = (n' : Int) := by
            unfold lenV at g4
            split at g4 <;> first | (cases g4; done) | (injection g4 with g4; exact ⟨_, g4.symm⟩) | (injection g4 with g4; exact ⟨0, g4.symm⟩)
          obtain ⟨n', rfl⟩ := hn
          obtain ⟨u', q1, q2⟩ := slc3_sound (P := P) r ht hs hlo hhi hmx (opd_rep r hx) g1 g2 g3 g4 hc.1 (by omega)
          exact fin_pure r hd (by simp only [execOp, ho, Option.map_some]; exact run_v q1) q2 rfl rfl
        · cases he
      · cases he
    · cases h
  · rename_i t x lo hi ho
    split at h
    · rename_i n e ht
      simp only [Option.bind_eq_some_iff] at h
      obtain ⟨sz, hs, h⟩ := h
      split at h
      · rename_i h0
        simp only [Option.bind_eq_some_iff] at h
        obtain ⟨x', hx, lo', hlo, h⟩ := h
        obtain ⟨hi', hhi, rfl⟩ := Option.map_eq_some_iff.1 h
        simp only [X.eval] at he
        split at he
        · rename_i hh l g1 g2
          split at he
          · rename_i hc
            have hx' := opd_rep r hx
            split at he
            · rename_i k z i off hg
              rw [hg] at hx'
              have go : ∀ (z' : Nat) (es : List (List AV)) (nd : Node), (nd = .row z' es ∨ nd = .arow z' es) → s.ob k = some nd → (if (i * z + off) % sz = 0 ∧ i * z + off + n * sz ≤ es.length * z' then some (⟨.sl k sz ((i * z + off) / sz + l) (hh - l), [k], [], []⟩ : Ev) else none) = some ev → Fin P N o β Z s a w (s.app o.dst ev) := fun z' es nd hn hob he => by
                split at he
                · rename_i hq
                  injection he with he
                  subst he
                  cases hu : a.eval x with
                  | pointer ad =>
                    rw [hu] at hx'
                    cases hx' with
                    | fro hx' => cases hx'
                    | ptr _ _ _ _ b ob hb =>
                      refine fin_pure r hd ?_ (aslc_sl r hn hob hb hq.1 h0 hq.2 hc.1 hc.2.1) rfl rfl
                      simp only [execOp, ho]
                      refine run_v ?_
                      rw [hu]
                      exact arr_bounds r hlo hhi g1 g2 hc.1 hc.2.1 ht hs _
                  | _ => rw [hu] at hx'; cases hx' with | fro hx' => cases hx'
                · cases he
              split at he
              · rename_i z' es hob
                exact go z' es _ (.inl rfl) hob he
              · rename_i z' es hob
                exact go z' es _ (.inr rfl) hob he
              · cases he
            · cases he
          · cases he
        · cases he
      · cases h
    · cases h
  · rename_i t x i ho
    split at h
    · rename_i n e ht
      simp only [Option.bind_eq_some_iff] at h
      obtain ⟨sz, hs, x', hx, h⟩ := h
      obtain ⟨i', hi, rfl⟩ := Option.map_eq_some_iff.1 h
      simp only [X.eval] at he
      have hx' := opd_rep r hx
      have hi' := opd_rep r hi
      split at he
      · rename_i kk q hq
        rw [hq] at hi'
        have ei := hi'.sc_inv
        split at he
        · rename_i hc
          split at he
          · rename_i k z j off hg
            rw [hg] at hx'
            injection he with he
            subst he
            cases hu : a.eval x with
            | pointer ad =>
              rw [hu] at hx'
              cases hx' with
              | fro hx' => cases hx'
              | ptr _ _ _ _ b ob hb =>
                refine fin_pure r hd (u := .pointer (some ⟨b, ob + j * z + off + q.toNat * sz, none⟩)) ?_ ?_ rfl rfl
                · simp only [execOp, ho]
                  refine run_v ?_
                  rw [hu, ei, aidx_run ht hs hc.1 hc.2, add_at]
                · have := CRep.ptr (Z := Z) (w := w) k z j (off + q.toNat * sz) b ob hb
                  rwa [← Nat.add_assoc] at this
            | _ => rw [hu] at hx'; cases hx' with | fro hx' => cases hx'
          · rename_i cs hg
            rw [hg] at hx'
            injection he with he
            subst he
            cases hu : a.eval x with
            | pointer ad =>
              rw [hu] at hx'
              cases hx' with
              | fro hx' =>
                cases hx' with
                | fp _ b ob f hmm hr =>
                  refine fin_pure r hd (u := .pointer (some ⟨b, ob + q.toNat * sz, none⟩)) ?_ (.fro (.fp _ b _ (fun j => f (q.toNat * sz + j)) (fun j c hcc => ?_) (fun j c hcc => ?_))) rfl rfl
                  · simp only [execOp, ho]
                    refine run_v ?_
                    rw [hu, ei, aidx_run ht hs hc.1 hc.2, add_at]
                  · rw [List.getElem?_drop] at hcc
                    have := hmm _ c hcc
                    rwa [← Nat.add_assoc] at this
                  · rw [List.getElem?_drop] at hcc
                    exact hr _ c hcc
            | _ => rw [hu] at hx'; cases hx' with | fro hx' => cases hx'
          · cases he
        · cases he
      · cases he
    · cases h
  · rename_i t ho
    injection h with h
    subst h
    simp only [X.eval, Option.some.injEq] at he
    subst he
    have hp : Pushed w (w.alloc (.map #[] 0)) (.map #[] 0) := ⟨rfl, rfl, rfl, rfl⟩
    obtain ⟨q1, q2⟩ := r.alloc hp (p := 0) hm (d := o.dst) (v := .mp m) (u := .map (some w.heap.size)) (nd := .map [])
      ⟨w.heap.size, #[], 0, Places.set_new, hp.new, rfl, fun hz => Nat.lt_irrefl _ (r.froz _ _ hz), fun i p hp => by simp at hp⟩ (.mp m w.heap.size 0 Places.set_new) hd
    exact ⟨_, _, _, by simp only [execOp, ho]; exact run_v (RowKit.run_makeMap t w), .inl ⟨_, rfl, q1⟩, q2⟩
  · rename_i t x k comma ho
    split at h
    · rename_i kt vt ht
      simp only [Option.bind_eq_some_iff] at h
      obtain ⟨kd, hkd, z, hz, x', hx, h⟩ := h
      obtain ⟨k', hk, rfl⟩ := Option.map_eq_some_iff.1 h
      obtain ⟨td, htd, hkt⟩ := keyKind_spec hkd
      obtain ⟨zu, rfl, hz1, hzr⟩ := zeroS_run hz
      simp only [X.eval] at he
      have hx' := opd_rep r hx
      have hk' := opd_rep r hk
      split at he
      · rename_i rr hg
        rw [hg] at hx'
        split at he
        · rename_i es hob
          obtain ⟨b, ents, clock, hb, hu, hh, hnz, hes⟩ := map_inv r hob hx'
          split at he
          · rename_i hck
            have fin : ∀ (q : Option (Nat × AV)) (v : AV) (u : Value) (okk : Bool), Instr.findNow td (a.eval k) ents.toList 0 = some (q.map fun p => (p.1, u)) → (q = none → u = zu ∧ okk = false) → (q ≠ none → okk = true) → CRep β Z w v u → ev = ⟨if comma then .tup [v, .sc (.bool okk)] else v, [rr], [], []⟩ → Fin P N o β Z s a w (s.app o.dst ev) := fun q v u okk e1 e2 e3 e4 e5 => by
              subst e5
              refine fin_pure r hd (u := if comma then .tuple #[u, .bool okk] else u) ?_ ?_ rfl rfl
              · simp only [execOp, ho]
                refine run_v ?_
                rw [hu]
                have hck' : ∀ em, (Instr.checkKey em 10000 kt (a.eval k)).run P w = .ok () w := fun em => run_checkKey' htd hkt em 9999 _
                cases q with
                | none =>
                  obtain ⟨rfl, rfl⟩ := e2 rfl
                  simp [Instr.lookup, run_underlying ht, MapKept.run_getObj_map hh, hck', MapKept.run_findKey htd e1, hzr, Result.andThen]
                | some p =>
                  have := e3 (by simp)
                  subst this
                  simp [Instr.lookup, run_underlying ht, MapKept.run_getObj_map hh, hck', MapKept.run_findKey htd e1, Result.andThen]
              · cases comma
                · simpa using e4
                · simp only [if_true]
                  refine .tup _ _ rfl fun j c hc => ?_
                  match j with
                  | 0 => simp at hc; subst hc; simpa using e4
                  | 1 => simp at hc; subst hc; exact .fro (.sc _ rfl)
                  | j + 2 => simp at hc
            split at he
            · rename_i j v hf
              injection he with he
              obtain ⟨r', f1, f2⟩ := findA_sound hkt hk' es ents.toList 0 _ hes hf
              obtain ⟨e, n, _, f3, _, f5, _⟩ := f2
              exact fin (some (j, v)) v e.val true (by rw [f1, f3]; rfl) (fun h => by cases h) (fun _ => rfl) (.fro f5) he.symm
            · rename_i hf
              injection he with he
              obtain ⟨r', f1, f2⟩ := findA_sound hkt hk' es ents.toList 0 _ hes hf
              exact fin none _ zu false (by rw [f1, f2]; rfl) (fun _ => ⟨rfl, rfl⟩) (fun h => absurd rfl h) (.fro (.sc _ hz1)) he.symm
            · cases he
          · cases he
        · cases he
      · cases he
    · cases h
  · rename_i t x k v ho
    split at h
    · rename_i hdst
      split at h
      · rename_i kt vt ht
        simp only [Option.bind_eq_some_iff] at h
        obtain ⟨kd, hkd, x', hx, k', hk, h⟩ := h
        obtain ⟨v', hv, rfl⟩ := Option.map_eq_some_iff.1 h
        obtain ⟨td, htd, hkt⟩ := keyKind_spec hkd
        simp only [X.eval] at he
        have hx' := opd_rep r hx
        have hk' := opd_rep r hk
        have hv' := opd_rep r hv
        split at he
        · rename_i rr hg
          rw [hg] at hx'
          split at he
          · rename_i es hob
            obtain ⟨b, ents, clock, hb, hu, hh, hnz, hes⟩ := map_inv r hob hx'
            split at he
            · rename_i hck
              have hkf : (s.get k').free = true := by
                have := hck.1
                unfold AV.isKey at this
                split at this <;> first | (cases this; done) | (rename_i e _; rw [e]; rfl) | (rename_i e; rw [e]; rfl)
              have hfk := hk'.frozen hkf
              have hfv := hv'.frozen hck.2
              have hck' : ∀ em, (Instr.checkKey em 10000 kt (a.eval k)).run P w = .ok () w := fun em => run_checkKey' htd hkt em 9999 _
              have fin : ∀ (es' : List (AV × AV)) (ents' : Array MapEntry) (c' : Nat), (Instr.mapUpdate t (a.eval x) (a.eval k) (a.eval v)).run P w = .ok () { w with heap := w.heap.setIfInBounds b (.map ents' c') } → es'.length = ents'.size → (∀ (w' : World), Keeps Z w Z w' → ∀ (i : Nat) (p : AV × AV), es'[i]? = some p → ∃ e, ents'[i]? = some e ∧ FRep Z w' p.1 e.key ∧ FRep Z w' p.2 e.val) → ev = ⟨.dead, [rr], [(rr, some (.map es'))], []⟩ → Fin P N o β Z s a w (s.app o.dst ev) := fun es' ents' c' e1 e2 e3 e4 => by
                subst e4
                have hlt : b < w.heap.size := (Array.getElem?_eq_some_iff.1 hh).1
                obtain ⟨q1, q2⟩ := r.mapTurn (w' := { w with heap := w.heap.setIfInBounds b (.map ents' c') }) hob hb hh rfl rfl rfl rfl hnz (nd := .map es') fun kp => ⟨b, ents', c', hb, by simp [hlt], e2, hnz, e3 _ kp⟩
                refine ⟨.skip, { w with heap := w.heap.setIfInBounds b (.map ents' c') }, β, by simp only [execOp, ho, Sem.run_bind, e1, Result.andThen_ok, Sem.run_pure], .inr ⟨rfl, ?_⟩, ?_⟩
                · rw [hdst]; exact q1
                · rw [hdst]; exact q2
              split at he
              · rename_i j v0 hf
                injection he with he
                obtain ⟨r', f1, e, n, hj, f3, f4, f5, f6⟩ := findA_sound hkt hk' es ents.toList 0 _ hes hf
                have hjn : j = n := by omega
                subst hjn
                have hej : ents[j]? = some e := by simpa using f4
                have hjl : j < ents.size := (Array.getElem?_eq_some_iff.1 hej).1
                refine fin (es.set j (s.get k', s.get v')) (ents.modify j fun e => { e with key := a.eval k, val := a.eval v }) clock ?_ (by simp [hes.1]) (fun w' kp i p hp => ?_) he.symm
                · rw [hu]
                  have hst : (Instr.keyThatStays (((ents[j]?).map (·.key)).getD (a.eval k)) (a.eval k)).run P w = .ok (a.eval k) w := by
                    rw [hej]
                    simp only [Option.map_some, Option.getD_some, f6]
                    simp [Instr.keyThatStays, isKey_bits hk' hck.1]
                  simp [Instr.mapUpdate, run_underlying ht, MapKept.run_getObj_map hh, hck', MapKept.run_findKey htd (f1.trans (by rw [f3])), hst, MapKept.run_setObj_map _ hh, Result.andThen]
                · rw [List.getElem?_set] at hp
                  rw [Array.getElem?_modify]
                  by_cases hij : j = i
                  · subst hij
                    have hjl' : j < es.length := by rw [hes.1]; simpa using hjl
                    simp [hjl'] at hp
                    subst hp
                    exact ⟨{ e with key := a.eval k, val := a.eval v }, by simp [hej], hfk.keeps kp, hfv.keeps kp⟩
                  · simp [hij] at hp
                    obtain ⟨e2, q1, q2, q3⟩ := hes.2 i p hp
                    exact ⟨e2, by simpa [hij] using q1, q2.keeps kp, q3.keeps kp⟩
              · rename_i hf
                injection he with he
                obtain ⟨r', f1, f2⟩ := findA_sound hkt hk' es ents.toList 0 _ hes hf
                refine fin (es ++ [(s.get k', s.get v')]) (ents.push { key := a.eval k, val := a.eval v, born := clock }) (clock + 1) ?_ (by simp [hes.1]) (fun w' kp i p hp => ?_) he.symm
                · rw [hu]
                  simp [Instr.mapUpdate, run_underlying ht, MapKept.run_getObj_map hh, hck', MapKept.run_findKey htd (f1.trans (by rw [f2])), MapKept.run_setObj_map _ hh, Result.andThen]
                · have hsz : es.length = ents.size := by simpa using hes.1
                  by_cases hi : i < es.length
                  · rw [List.getElem?_append_left hi] at hp
                    obtain ⟨e2, q1, q2, q3⟩ := hes.2 i p hp
                    refine ⟨e2, ?_, q2.keeps kp, q3.keeps kp⟩
                    rw [Array.getElem?_push, if_neg (by omega)]
                    simpa using q1
                  · rw [List.getElem?_append_right (by omega)] at hp
                    have hi' : i = es.length := by
                      have := (List.getElem?_eq_some_iff.1 hp).1
                      simp at this
                      omega
                    subst hi'
                    simp at hp
                    subst hp
                    exact ⟨{ key := a.eval k, val := a.eval v, born := clock }, by rw [hsz]; simp, hfk.keeps kp, hfv.keeps kp⟩
              · cases he
            · cases he
          · cases he
        · cases he
      · cases h
    · cases h
  · cases h

/-- The greatest, the least of some. -/
theorem mmn_case (r : Rel N β Z s a w) (hd : ∀ x, o.dst = some x → x < N) {c : Call} (ho : o.op = .call c) {mx : Bool} {x : Operand} {l : List Operand} (hc : c.callee = .builtin (if mx then .max else .min)) (ha : c.args.toList = x :: l) {x' : Opd} {l' : List Opd} (hx : cOpd x = some x') (hl : cOpds l = some l')
    {m : Nat} {ev : Ev} (he : (X.mmn mx x' l').eval s.get s.ob m = some ev) : Fin P N o β Z s a w (s.app o.dst ev) := by
  obtain ⟨callee, args, argTypes⟩ := c
  simp only at hc ha
  subst hc
  obtain ⟨args⟩ := args
  simp only at ha
  subst ha
  simp only [X.eval] at he
  obtain ⟨v, hv, he⟩ := Option.bind_eq_some_iff.1 he
  split at he
  · injection he with he
    subst he
    obtain ⟨u', g1, g2⟩ := mmF_sound (P := P) r l l' _ v _ hl (opd_rep r hx) hv
    refine fin_pure r hd (u := u') ?_ g2 rfl rfl
    cases mx
    · simp only [Bool.false_eq_true, if_false] at g1
      simp [execOp, ho, resolve, invoke, builtin, Builtin.min_, g1]
    · simp only [if_true] at g1
      simp [execOp, ho, resolve, invoke, builtin, Builtin.max_, g1]
  · cases he

theorem copy_case (r : Rel N β Z s a w) (hd : ∀ x, o.dst = some x → x < N) {c : Call} (ho : o.op = .call c) {x y : Operand} {t tx e e' : TypeId} (hc : c.callee = .builtin .copy) (ha : c.args.toList = [x, y]) (hat : c.argTypes.toList = [t, tx]) (ht : P.underlying t = some (.slice e)) (hk : P.underlying tx = some (.slice e')) {sz : Nat} (hs : szOf P e = some sz) {x' y' : Opd} (hx : cOpd x = some x') (hy : cOpd y = some y')
    {m : Nat} {ev : Ev} (he : (X.copy sz x' y').eval s.get s.ob m = some ev) : Fin P N o β Z s a w (s.app o.dst ev) := by
  obtain ⟨callee, args, argTypes⟩ := c
  simp only at hc ha hat
  subst hc
  obtain ⟨args⟩ := args
  obtain ⟨argTypes⟩ := argTypes
  simp only at ha hat
  subst ha hat
  obtain ⟨u', w', q1, q2, q3⟩ := copy_sound (P := P) (ty := o.type) r hd ht hk hs (opd_rep r hx) (opd_rep r hy) he
  exact ⟨.value u', w', β, by simp [execOp, ho, resolve, invoke, builtin, q1], .inl ⟨u', rfl, q2⟩, q3⟩

end
end Go.Proofs.YtbmlhmgldipnhabGreatE
