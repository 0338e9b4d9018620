/-
  The engine, part 9: stores, slice literals, append.
-/
import Derived.Test.YtbmlhmgldipnhabGreatE8
set_option linter.unusedVariables false
set_option linter.unusedSimpArgs false
namespace Go.Proofs.YtbmlhmgldipnhabGreatE
open Go

theorem getD_toArray (l : List Value) (x : Nat) : l.toArray.getD x undef = (l[x]?).getD undef := by simp [Array.getD_eq_getD_getElem?]
theorem getD_toList (a : Array Value) (x : Nat) : (a.toList[x]?).getD undef = a.getD x undef := by simp [Array.getD_eq_getD_getElem?]

theorem splice_getD (cur : Array Value) (vs : List Value) (o x : Nat) (h : o + vs.length ≤ cur.size) :
    ((cur.toList.take o ++ vs ++ cur.toList.drop (o + vs.length)).toArray).getD x undef = if x < o then cur.getD x undef else if x < o + vs.length then (vs[x - o]?).getD undef else cur.getD x undef := by
  rw [getD_toArray]
  have hl : cur.toList.length = cur.size := by simp
  by_cases h1 : x < o
  · rw [if_pos h1, List.append_assoc, List.getElem?_append_left (by simp; omega), List.getElem?_take_of_lt h1, getD_toList]
  · rw [if_neg h1]
    by_cases h2 : x < o + vs.length
    · rw [if_pos h2, List.append_assoc, List.getElem?_append_right (by simp; omega), List.getElem?_append_left (by simp; omega)]
      congr 2
      simp
      omega
    · rw [if_neg h2, List.getElem?_append_right (by simp; omega), List.getElem?_drop, ← getD_toList]
      congr 2
      simp
      omega
theorem splice_size (cur : Array Value) (vs : List Value) (o : Nat) (h : o + vs.length ≤ cur.size) : (cur.toList.take o ++ vs ++ cur.toList.drop (o + vs.length)).toArray.size = cur.size := by
  simp; omega

theorem setRow_turned {w : World} {b o : Nat} {arr arr' : Array Value} {t : TypeId} (h : w.heap[b]? = some (.cells arr t (0, 0))) (hs : arr'.size = arr.size) (hl : ∀ x, x < o → arr'.getD x undef = arr.getD x undef) : Turned w (w.setRow b arr') b o arr arr' t where
  was := h
  now := setRow_heap w b arr arr' t (0, 0) h
  same := hs
  low := hl
  other c hc := by
    unfold World.setRow
    simp only [Array.getElem?_modify]
    rw [if_neg (fun e => hc e.symm)]
  size := by simp [World.setRow]
  os := rfl
  tape := rfl
  output := rfl

section
variable {P : Program} {N : Nat} {β : Places} {Z : Froz} {s : St} {a : Act} {w : World}

theorem Flat.set {R : AV → Value → Prop} {sz : Nat} {es : List (List AV)} {f g : Nat → Value} (h : Flat R sz es f) {i off : Nat} {e : List AV} (he : es[i]? = some e) {ds : List AV} (hd : off + ds.length ≤ e.length)
    (hg : ∀ x, x < es.length * sz → ¬ (i * sz + off ≤ x ∧ x < i * sz + off + ds.length) → g x = f x) (hn : ∀ j c, ds[j]? = some c → R c (g (i * sz + off + j))) (h1 : ∀ j, j < ds.length → (g (i * sz + off + j)).oneCell' = true) : Flat R sz (es.set i (setCells e off ds)) g := by
  have hi : i < es.length := (List.getElem?_eq_some_iff.1 he).1
  have hsz := h.size i e he
  have hle : i * sz + sz ≤ es.length * sz := by
    have := Nat.mul_le_mul_right sz (show i + 1 ≤ es.length from hi)
    rwa [Nat.add_mul, Nat.one_mul] at this
  have far : ∀ i' j : Nat, i' ≠ i → j < sz → ¬ (i * sz + off ≤ i' * sz + j ∧ i' * sz + j < i * sz + off + ds.length) := by
    intro i' j hne hj hh
    rcases Nat.lt_or_gt_of_ne hne with l | l
    · have := Nat.mul_le_mul_right sz (show i' + 1 ≤ i from l)
      rw [Nat.add_mul, Nat.one_mul] at this
      omega
    · have := Nat.mul_le_mul_right sz (show i + 1 ≤ i' from l)
      rw [Nat.add_mul, Nat.one_mul] at this
      omega
  refine ⟨fun i' e' he' => ?_, fun i' j c hc => ?_, fun x hx => ?_⟩
  · rw [List.getElem?_set] at he'
    by_cases q : i = i'
    · subst q
      simp [hi] at he'
      subst he'
      rw [setCells_length _ _ _ hd, hsz]
    · simp [q] at he'
      exact h.size i' e' he'
  · obtain ⟨e', q1, q2, q3, q4⟩ := cellAt_lt hc
    rw [List.getElem?_set] at q1
    by_cases q : i = i'
    · subst q
      simp [hi] at q1
      subst q1
      rw [setCells_get _ _ _ _ hd] at q2
      rw [setCells_length _ _ _ hd] at q4
      by_cases l1 : j < off
      · rw [if_pos l1] at q2
        rw [hg _ (mul_lt_row hi (by omega)) (by omega)]
        exact h.rep i j c (by simp [cellAt, he, q2])
      · rw [if_neg l1] at q2
        by_cases l2 : j < off + ds.length
        · rw [if_pos l2] at q2
          have := hn _ c q2
          rwa [show i * sz + off + (j - off) = i * sz + j by omega] at this
        · rw [if_neg l2] at q2
          rw [hg _ (mul_lt_row hi (by omega)) (by omega)]
          exact h.rep i j c (by simp [cellAt, he, q2])
    · simp [q] at q1
      have hj : j < sz := by rw [← h.size i' e' q1]; exact q4
      rw [hg _ (mul_lt_row (by simpa using q3) hj) (far i' j (fun e => q e.symm) hj)]
      exact h.rep i' j c (by simp [cellAt, q1, q2])
  · have hx' : x < es.length * sz := by simpa using hx
    by_cases q : i * sz + off ≤ x ∧ x < i * sz + off + ds.length
    · have := h1 (x - (i * sz + off)) (by omega)
      rwa [show i * sz + off + (x - (i * sz + off)) = x by omega] at this
    · rw [hg x hx' q]
      exact h.one x hx'

theorem storeV_sound (r : Rel N β Z s a w) {t : TypeId} {sz : Nat} (hs : szOf P t = some sz) (h0 : 0 < sz) {x y : AV} {u v : Value} {ev : Ev} (hx : CRep β Z w x u) (hy : CRep β Z w y v) (he : storeV s.ob sz x y = some ev) :
    ∃ w', (Instr.storeAt t u v).run P w = .ok () w' ∧ Rel N β Z (s.app none ev) a w' ∧ SExt β Z s w β Z (s.app none ev) w' := by
  -- one text for both kinds of object
  have fin : ∀ (k z i off : Nat) (es : List (List AV)) (e : List AV) (nd nd' : Node), x = .ptr k z i off → s.ob k = some nd → (nd = .row z es ∨ nd = .arow z es) → es[i]? = some e → off + sz ≤ e.length → y.cells.length = sz → y.cells.all AV.one = true →
      (∀ b o w', β k = some (b, o) → Keeps Z w Z w' → (∀ arr t, w'.heap[b]? = some (.cells arr t (0, 0)) → o + es.length * z ≤ arr.size → (∀ x, x < arr.size → (arr.getD x undef).oneCell' = true) → Flat (CRep β Z w) z (es.set i (setCells e off y.cells)) (fun x => arr.getD (o + x) undef) → (∀ x, o ≤ x → ¬ Z b x) → NRep β Z w' k nd')) →
      ∃ w', (Instr.storeAt t u v).run P w = .ok () w' ∧ Rel N β Z (s.upd k nd') a w' ∧ SExt β Z s w β Z (s.upd k nd') w' := by
    intro k z i off es e nd nd' hxe hob hnd hes hle hyl hy1 hmk
    subst hxe
    have hc := cells_rep hy hy1
    cases hx with
    | fro hx => cases hx
    | ptr _ _ _ _ b o hb =>
      rcases node_row hnd (r.node k nd hob) with ⟨h1, _⟩ | ⟨b', o', hb', hrow⟩
      · subst h1; simp at hes
      · rw [hb] at hb'
        injection hb' with hb'
        injection hb' with e1 e2
        subst e1 e2
        obtain ⟨arr, ty, g1, g2, g3, g4, g5⟩ := hrow.flat
        have hi : i < es.length := (List.getElem?_eq_some_iff.1 hes).1
        have hel := g3.size i e hes
        have hle2 : i * z + z ≤ es.length * z := by
          have := Nat.mul_le_mul_right z (show i + 1 ≤ es.length from hi)
          rwa [Nat.add_mul, Nat.one_mul] at this
        have hvl : v.cells.toList.length = sz := by simp [hc.len, hyl]
        have hfit : o + i * z + off + v.cells.toList.length ≤ arr.size := by omega
        have hrun := run_storeCells_at P b (o + i * z + off) ty v.cells.toList 0 arr w g1 (by simpa using hfit) (fun q hq => by
          obtain ⟨j, hj, rfl⟩ := List.getElem_of_mem hq
          have := hc.one j (by simpa using hj)
          simpa [Array.getD_eq_getD_getElem?, show j < v.cells.size by simpa using hj] using this)
        simp only [Nat.add_zero] at hrun
        have hsp := splice_getD arr v.cells.toList (o + i * z + off)
        have hss := splice_size arr v.cells.toList _ hfit
        generalize hA : (arr.toList.take (o + i * z + off) ++ v.cells.toList ++ arr.toList.drop (o + i * z + off + v.cells.toList.length)).toArray = arr' at hrun hsp hss
        have hvg : ∀ j, j < sz → (v.cells.toList[j]?).getD undef = v.cells.getD j undef := fun j _ => getD_toList _ _
        have htn := setRow_turned (o := o) g1 hss (fun q hq => by rw [hsp q hfit, if_pos (by omega)])
        have hgo : ∀ q, arr'.getD q undef = if q < o + i * z + off then arr.getD q undef else if q < o + i * z + off + sz then v.cells.getD (q - (o + i * z + off)) undef else arr.getD q undef := fun q => by
          rw [hsp q hfit, hvl]
          by_cases l1 : q < o + i * z + off
          · rw [if_pos l1, if_pos l1]
          · rw [if_neg l1, if_neg l1]
            by_cases l2 : q < o + i * z + off + sz
            · rw [if_pos l2, if_pos l2, hvg _ (by omega)]
            · rw [if_neg l2, if_neg l2]
        have hone : ∀ q, q < arr'.size → (arr'.getD q undef).oneCell' = true := fun q hq => by
          rw [hgo q]
          by_cases l1 : q < o + i * z + off
          · rw [if_pos l1]; exact g5 q (by omega)
          · rw [if_neg l1]
            by_cases l2 : q < o + i * z + off + sz
            · rw [if_pos l2]; exact hc.one _ (by rw [hc.len, hyl]; omega)
            · rw [if_neg l2]; exact g5 q (by omega)
        refine ⟨w.setRow b arr', ?_, r.store hob hb htn g4 (hmk b o _ hb (htn.keeps g4) arr' ty htn.now (by omega) hone ?_ g4)⟩
        · simp only [Instr.storeAt, Instr.sureAddr, Sem.run_bind, Sem.run_pure, Result.andThen_ok, storeVar, run_sizeOf' hs]
          rw [if_neg (by rw [hc.len, hyl]; simp)]
          simpa using hrun
        · refine g3.set hes (by omega) (fun q hq hn => ?_) (fun j c hj => ?_) (fun j hj => ?_)
          · rw [hyl] at hn
            rw [hgo]
            by_cases l1 : o + q < o + i * z + off
            · rw [if_pos l1]
            · rw [if_neg l1, if_neg (by omega)]
          · have hj' : j < sz := by rw [← hyl]; exact (List.getElem?_eq_some_iff.1 hj).1
            rw [hgo, if_neg (by omega), if_pos (by omega), show o + (i * z + off + j) - (o + i * z + off) = j by omega]
            exact hc.rep j c hj
          · rw [hgo, if_neg (by omega), if_pos (by omega), show o + (i * z + off + j) - (o + i * z + off) = j by omega]
            exact hc.one j (by rw [hc.len]; exact hj)
  unfold storeV at he
  split at he
  · rename_i k z i off
    split at he
    · rename_i z' es hob
      split at he
      · rename_i hz
        obtain ⟨rfl, hyl, hp⟩ := hz
        split at he
        · rename_i e hes
          split at he
          · rename_i hle
            injection he with he
            subst he
            have hp1 : y.cells.all AV.one = true := List.all_eq_true.2 fun c hc => by
              have := List.all_eq_true.1 hp c hc
              simp only [AV.plain, Bool.and_eq_true] at this
              exact this.1
            refine fin k z i off es e _ (.row z (es.set i (setCells e off y.cells))) rfl hob (.inl rfl) hes hle hyl hp1 fun b o w' hb hk arr t g1 g2 g3 g4 g5 => .inr ⟨b, o, hb, ?_⟩
            -- the cells name no object
            rcases r.node k _ hob with ⟨h1, _⟩ | ⟨b', o', hb', hrow⟩
            · subst h1; simp at hes
            · obtain ⟨arr0, t0, f1, f2, f3, f4, f5⟩ := RowRep.flat hrow
              refine RowRep.of g1 (by simpa using g2) ?_ g5 g3
              have hfree : ∀ (i' j : Nat) (c : AV), cellAt (es.set i (setCells e off y.cells)) i' j = some c → ∀ q, CRep β Z w c q → FRep Z w' c q := by
                intro i' j c hc q hq
                obtain ⟨e', q1, q2, q3, q4⟩ := cellAt_lt hc
                have inold : ∀ i2 j2, cellAt es i2 j2 = some c → FRep Z w' c q := fun i2 j2 h2 => by
                  have hf := f3.rep i2 j2 c h2
                  exact (hq.frozen_of hf).keeps hk
                rw [List.getElem?_set] at q1
                by_cases qq : i = i'
                · subst qq
                  have hi : i < es.length := (List.getElem?_eq_some_iff.1 hes).1
                  simp [hi] at q1
                  subst q1
                  rw [setCells_get _ _ _ _ (by omega)] at q2
                  by_cases l1 : j < off
                  · rw [if_pos l1] at q2
                    exact inold i j (by simp [cellAt, hes, q2])
                  · rw [if_neg l1] at q2
                    by_cases l2 : j < off + y.cells.length
                    · rw [if_pos l2] at q2
                      have := List.all_eq_true.1 hp c (List.mem_of_getElem? q2)
                      simp only [AV.plain, Bool.and_eq_true] at this
                      exact (hq.frozen this.2).keeps hk
                    · rw [if_neg l2] at q2
                      exact inold i j (by simp [cellAt, hes, q2])
                · simp [qq] at q1
                  exact inold i' j (by simp [cellAt, q1, q2])
              exact ⟨g4.size, fun i' j c hc => hfree i' j c hc _ (g4.rep i' j c hc), g4.one⟩
          · cases he
        · cases he
      · cases he
    · rename_i z' es hob
      split at he
      · rename_i hz
        obtain ⟨rfl, hyl, hp⟩ := hz
        split at he
        · rename_i e hes
          split at he
          · rename_i hle
            injection he with he
            subst he
            exact fin k z i off es e _ (.arow z (es.set i (setCells e off y.cells))) rfl hob (.inr rfl) hes hle hyl hp fun b o w' hb hk arr t g1 g2 g3 g4 g5 => ⟨b, o, hb, RowRep.of g1 (by simpa using g2) (g4.imp (fun _ _ => rfl) fun c u hc => hc.keeps hk fun _ _ h => h) g5 g3⟩
          · cases he
        · cases he
      · cases he
    · cases he
  · cases he

end
end Go.Proofs.YtbmlhmgldipnhabGreatE
