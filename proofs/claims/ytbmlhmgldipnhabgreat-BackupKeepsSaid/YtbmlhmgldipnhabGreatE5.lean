/-
  The engine, part 5: the model's operations do what part 4 says: reads, addresses, numbers.
-/
import Derived.Test.YtbmlhmgldipnhabGreatE4
set_option linter.unusedVariables false
set_option linter.unusedSimpArgs false
namespace Go.Proofs.YtbmlhmgldipnhabGreatE
open Go

def cVal : Value → AV
  | .slice none 0 0 => .nils
  | v => .sc v
theorem cVal_rep (Z : Froz) (w : World) (v : Value) (h : v.oneCell' = true) : FRep Z w (cVal v) v := by
  unfold cVal
  split
  · exact .nils
  · exact .sc v h

def cOpd : Operand → Option Opd
  | .tmp t => some (.t t)
  | .const v => if v.oneCell' then some (.k (cVal v)) else none
  | .func f => some (.k (.fn f [] []))
  | .global _ => none

theorem opd_rep {N : Nat} {β : Places} {Z : Froz} {s : St} {a : Act} {w : World} (r : Rel N β Z s a w) {x : Operand} {y : Opd} (h : cOpd x = some y) : CRep β Z w (s.get y) (a.eval x) := by
  cases x with
  | tmp t =>
    simp only [cOpd, Option.some.injEq] at h
    subst h
    simp only [St.get, Act.eval]
    cases e : s.env.lookup t with
    | none => exact .fro (.dead _)
    | some v => exact r.env t v e
  | const v =>
    simp only [cOpd] at h
    split at h
    · rename_i h1
      injection h with h
      subst h
      exact .fro (cVal_rep Z w v h1)
    · cases h
  | func f =>
    simp only [cOpd, Option.some.injEq] at h
    subst h
    exact .fro (.fn f [] [] #[] #[] rfl rfl (fun j c hc => by simp at hc) (fun j c hc => by simp at hc))
  | global g => simp [cOpd] at h

def szOf (P : Program) (t : TypeId) : Option Nat := (P.info? t).map (·.size)
def agOf (P : Program) (t : TypeId) : Option Bool := (P.underlying t).map fun d => match d with
  | .struct _ | .array _ _ => true
  | _ => false

theorem run_sizeOf' {P : Program} {t : TypeId} {n : Nat} (h : szOf P t = some n) (w : World) : (sizeOf t).run P w = .ok n w := by
  unfold szOf at h
  cases e : P.info? t with
  | none => simp [e] at h
  | some i => simp [e] at h; simp [sizeOf, typeInfo, e, h]
theorem run_isAgg' {P : Program} {t : TypeId} {b : Bool} (h : agOf P t = some b) (w : World) : (isAgg t).run P w = .ok b w := by
  unfold agOf at h
  cases e : P.underlying t with
  | none => simp [e] at h
  | some d =>
    simp only [e, Option.map_some, Option.some.injEq] at h
    subst h
    simp only [isAgg, Sem.run_bind, run_underlying e, Result.andThen_ok]
    cases d <;> rfl

theorem add_at (b o j : Nat) : (⟨b, o, none⟩ : Addr).add j = ⟨b, o + j, none⟩ := by unfold Addr.add; split <;> simp_all

/-- Cells that lie there, read as a value of a type. -/
theorem run_loadVar' {P : Program} {t : TypeId} {sz : Nat} {ag : Bool} (hs : szOf P t = some sz) (ha : agOf P t = some ag) (h1 : ag = false → sz = 1) (w : World) (b o : Nat) (f : Nat → Value) (hc : ∀ j, j < sz → World.cellOf w b (o + j) = some (f j)) :
    (loadVar t ⟨b, o, none⟩).run P w = .ok (if ag then .agg ((List.range sz).map f).toArray else f 0) w := by
  unfold loadVar
  simp only [Sem.run_bind, run_isAgg' ha, Result.andThen_ok]
  cases ag with
  | true =>
    have := run_loadCells (P := P) w ⟨b, o, none⟩ sz f (fun j hj => by rw [add_at]; exact hc j hj)
    simp [run_sizeOf' hs, this]
  | false =>
    have := hc 0 (by rw [h1 rfl]; omega)
    simp only [World.cellOf, Nat.add_zero] at this
    simp [this]

/-- Cells with what they stand for: the value that is made of them. -/
theorem mkV_rep {β : Places} {Z : Froz} {w : World} {ag : Bool} {cs : List AV} {v : AV} (f : Nat → Value) (hm : mkV ag cs = some v) (h1 : ∀ j, j < cs.length → (f j).oneCell' = true) (hr : ∀ j c, cs[j]? = some c → CRep β Z w c (f j)) :
    CRep β Z w v (if ag then .agg ((List.range cs.length).map f).toArray else f 0) := by
  cases ag with
  | true =>
    simp only [mkV, if_true, Option.some.injEq] at hm
    subst hm
    have hg : ∀ j, j < cs.length → (((List.range cs.length).map f).toArray).getD j undef = f j := fun j hj => by simp [Array.getD_eq_getD_getElem?, hj]
    refine .agg _ _ (by simp) (fun j hj => ?_) (fun j c hc => ?_)
    · have hj' : j < cs.length := by simpa using hj
      rw [hg j hj']; exact h1 j hj'
    · have hj' : j < cs.length := (List.getElem?_eq_some_iff.1 hc).1
      rw [hg j hj']; exact hr j c hc
  | false =>
    simp only [mkV, Bool.false_eq_true, if_false] at hm ⊢
    split at hm
    · injection hm with hm; subst hm; exact hr 0 _ (by simp)
    · cases hm

theorem cellOf_row {w : World} {b x : Nat} {arr : Array Value} {t : TypeId} {fr : Nat × Nat} (h : w.heap[b]? = some (.cells arr t fr)) (hx : x < arr.size) : World.cellOf w b x = some (arr.getD x undef) := by
  simp [World.cellOf, World.cell?, h, hx, Array.getD_eq_getD_getElem?]

theorem mul_lt_row {i n sz j : Nat} (hi : i < n) (hj : j < sz) : i * sz + j < n * sz := by
  have h1 : (i + 1) * sz ≤ n * sz := Nat.mul_le_mul_right sz hi
  rw [Nat.add_mul, Nat.one_mul] at h1
  omega

/-- Cells of an element of a row. -/
theorem row_cells {β : Places} {Z : Froz} {R : AV → Value → Prop} {w : World} {sz : Nat} {es : List (List AV)} {b o : Nat} (h : RowRep R Z w sz es b o) (hR : ∀ c u, R c u → CRep β Z w c u) {i off n : Nat} {e : List AV} (he : es[i]? = some e) (hn : off + n ≤ e.length) :
    ∃ f : Nat → Value, (∀ j, j < n → World.cellOf w b (o + i * sz + off + j) = some (f j)) ∧ (∀ j, j < n → (f j).oneCell' = true) ∧ ∀ j c, ((e.drop off).take n)[j]? = some c → CRep β Z w c (f j) := by
  obtain ⟨arr, t, h1, h2, h3, h4, h5, h6⟩ := h
  have hi : i < es.length := (List.getElem?_eq_some_iff.1 he).1
  have hl := h3 i e he
  have hlt : ∀ j, j < n → o + i * sz + off + j < arr.size := fun j hj => by
    have := mul_lt_row (sz := sz) (j := off + j) hi (by omega)
    omega
  refine ⟨fun j => arr.getD (o + i * sz + off + j) undef, fun j hj => cellOf_row h1 (hlt j hj), fun j hj => h6 _ (hlt j hj), fun j c hc => ?_⟩
  have hj : j < n := by
    have := (List.getElem?_eq_some_iff.1 hc).1
    simp at this
    omega
  rw [List.getElem?_take_of_lt hj, List.getElem?_drop] at hc
  have := h4 i (off + j) c (by simp [cellAt, he, hc])
  rw [show o + (i * sz + (off + j)) = o + i * sz + off + j by omega] at this
  exact hR _ _ this

theorem loadV_sound {P : Program} {N : Nat} {β : Places} {Z : Froz} {s : St} {a : Act} {w : World} (r : Rel N β Z s a w) {t : TypeId} {sz : Nat} {ag : Bool} (hs : szOf P t = some sz) (ha : agOf P t = some ag) (h1 : ag = false → sz = 1) {x : AV} {u : Value} {ev : Ev}
    (hx : CRep β Z w x u) (he : loadV s.ob sz ag x = some ev) : ∃ u', (Instr.loadAt t u).run P w = .ok u' w ∧ CRep β Z w ev.v u' ∧ ev.U = [] ∧ ev.C = [] := by
  have fin : ∀ (b o : Nat) (cs : List AV) (f : Nat → Value), cs.length = sz → (∀ j, j < sz → World.cellOf w b (o + j) = some (f j)) → (∀ j, j < sz → (f j).oneCell' = true) → (∀ j c, cs[j]? = some c → CRep β Z w c (f j)) → ∀ F, (mkV ag cs).map (fun v => (⟨v, F, [], []⟩ : Ev)) = some ev →
      ∃ u', (Instr.loadAt t (.pointer (some ⟨b, o, none⟩))).run P w = .ok u' w ∧ CRep β Z w ev.v u' ∧ ev.U = [] ∧ ev.C = [] := by
    intro b o cs f hl hc h1' hr F hm
    obtain ⟨v, hv, rfl⟩ := Option.map_eq_some_iff.1 hm
    refine ⟨if ag then .agg ((List.range sz).map f).toArray else f 0, ?_, ?_, rfl, rfl⟩
    · simp only [Instr.loadAt, Instr.sureAddr, Sem.run_bind, Sem.run_pure, Result.andThen_ok]
      exact run_loadVar' hs ha h1 w b o f hc
    · have := mkV_rep f hv (by rw [hl]; exact h1') hr
      rwa [hl] at this
  cases x <;> simp only [loadV] at he <;> try (cases he; done)
  case fp cs =>
    split at he
    · rename_i hle
      cases hx with
      | fro hx =>
        cases hx with
        | fp _ b o f hm hr =>
          have hlt : ∀ j, j < sz → ∃ c, cs[j]? = some c := fun j hj => ⟨cs[j]'(by omega), List.getElem?_eq_getElem (by omega)⟩
          refine fin b o (cs.take sz) f (by simp; omega) (fun j hj => ?_) (fun j hj => ?_) (fun j c hc => ?_) _ he
          · obtain ⟨c, hc⟩ := hlt j hj; exact (hm j c hc).2.1
          · obtain ⟨c, hc⟩ := hlt j hj; exact (hm j c hc).2.2
          · have hj : j < sz := by have := (List.getElem?_eq_some_iff.1 hc).1; simp at this; omega
            rw [List.getElem?_take_of_lt hj] at hc
            exact .fro (hr j c hc)
    · cases he
  case ptr k z i off =>
    cases hx with
    | fro hx => cases hx
    | ptr _ _ _ _ b o hb =>
      split at he
      · rename_i z' es hob
        split at he
        · rename_i hz
          subst hz
          split at he
          · rename_i e hes
            split at he
            · rename_i hle
              rcases r.node k _ hob with ⟨h0, _⟩ | ⟨b', o', hb', hrow⟩
              · subst h0; simp at hes
              · rw [hb] at hb'
                injection hb' with hb'
                injection hb' with h1' h2'
                subst h1' h2'
                obtain ⟨f, f1, f2, f3⟩ := row_cells (β := β) hrow (fun c u h => .fro h) hes hle
                exact fin _ _ _ f (by simp; omega) f1 f2 f3 _ he
            · cases he
          · cases he
        · cases he
      · rename_i z' es hob
        split at he
        · rename_i hz
          subst hz
          split at he
          · rename_i e hes
            split at he
            · rename_i hle
              obtain ⟨b', o', hb', hrow⟩ := r.node k _ hob
              rw [hb] at hb'
              injection hb' with hb'
              injection hb' with h1' h2'
              subst h1' h2'
              obtain ⟨f, f1, f2, f3⟩ := row_cells (β := β) hrow (fun c u h => h) hes hle
              exact fin _ _ _ f (by simp; omega) f1 f2 f3 _ he
            · cases he
          · cases he
        · cases he
      · cases he

end Go.Proofs.YtbmlhmgldipnhabGreatE
