/-
  The engine, part 7: the model's operations do what part 4 says: values that are put together, cuts, equality.
-/
import Derived.Test.YtbmlhmgldipnhabGreatE6
import Derived.ChangeKeysEq
import Derived.Laws.StructEq
set_option linter.unusedVariables false
set_option linter.unusedSimpArgs false
namespace Go.Proofs.YtbmlhmgldipnhabGreatE
open Go

section
variable {P : Program} {β : Places} {Z : Froz} {w : World}

/-- Cells that stand for cells. -/
structure Cells (β : Places) (Z : Froz) (w : World) (cs : List AV) (us : Array Value) : Prop where
  len : us.size = cs.length
  one : ∀ j, j < us.size → (us.getD j undef).oneCell' = true
  rep : ∀ j c, cs[j]? = some c → CRep β Z w c (us.getD j undef)

theorem Cells.agg {cs : List AV} {us : Array Value} (h : Cells β Z w cs us) : CRep β Z w (.agg cs) (.agg us) := .agg cs us h.len.symm h.one h.rep

theorem cells_rep {v : AV} {u : Value} (h : CRep β Z w v u) (h1 : v.cells.all AV.one = true) : Cells β Z w v.cells u.cells := by
  have plain : v.one = true → v.cells = [v] → Cells β Z w v.cells u.cells := fun ho hc => by
    have hu := h.oneCell ho
    have hu' : u.cells = #[u] := by cases u <;> simp_all [Value.cells, Value.oneCell']
    rw [hc, hu']
    exact ⟨rfl, fun j hj => by simp at hj; subst hj; simpa using hu, fun j c hj => by
      cases j with
      | zero => simp at hj; subst hj; simpa using h
      | succ j => simp at hj⟩
  cases v with
  | agg cs =>
    cases h with
    | fro h => cases h with
      | agg _ us hl h1 hr => exact ⟨hl.symm, h1, fun j c hc => .fro (hr j c hc)⟩
    | agg _ us hl h1 hr => exact ⟨hl.symm, h1, hr⟩
  | _ => first | (exact plain rfl rfl) | (simp [AV.cells, AV.one] at h1)

theorem setCells_get (cs ds : List AV) (off j : Nat) (h : off + ds.length ≤ cs.length) : (setCells cs off ds)[j]? = if j < off then cs[j]? else if j < off + ds.length then ds[j - off]? else cs[j]? := by
  unfold setCells
  by_cases h1 : j < off
  · rw [if_pos h1, List.append_assoc, List.getElem?_append_left (by simp; omega), List.getElem?_take_of_lt h1]
  · rw [if_neg h1]
    by_cases h2 : j < off + ds.length
    · rw [if_pos h2, List.append_assoc, List.getElem?_append_right (by simp; omega), List.getElem?_append_left (by simp; omega)]
      congr 1
      simp
      omega
    · rw [if_neg h2, List.getElem?_append_right (by simp; omega), List.getElem?_drop]
      congr 1
      simp
      omega
theorem setCells_length (cs ds : List AV) (off : Nat) (h : off + ds.length ≤ cs.length) : (setCells cs off ds).length = cs.length := by
  simp [setCells]; omega

theorem zipIdx_fold (us : List Value) : ∀ (off n : Nat) (a : Array Value), (us.zipIdx n).foldl (fun cs p => cs.setIfInBounds (off + p.2) p.1) a = a.mapIdx fun j x => if off + n ≤ j then (us[j - (off + n)]?).getD x else x := by
  induction us with
  | nil =>
    intro off n a
    apply Array.ext_getElem?
    intro j
    by_cases hj : j < a.size <;> simp [hj]
  | cons u us ih =>
    intro off n a
    rw [List.zipIdx_cons, List.foldl_cons, ih]
    apply Array.ext_getElem?
    intro j
    simp only [Array.getElem?_mapIdx, Array.getElem?_setIfInBounds]
    by_cases hj : j < a.size
    · by_cases e : off + n = j
      · subst e
        have : ¬ (off + (n + 1) ≤ off + n) := by omega
        simp [this, hj]
      · by_cases l : off + n ≤ j
        · have l' : off + (n + 1) ≤ j := by omega
          have : j - (off + n) = (j - (off + (n + 1))) + 1 := by omega
          simp [e, l, l', this, hj]
        · have l' : ¬ off + (n + 1) ≤ j := by omega
          simp [e, l, l', hj]
    · have : a[j]? = none := Array.getElem?_eq_none (by omega)
      by_cases e : off + n = j
      · subst e; simp [this, hj]
      · simp [e, this]

/-- Parts laid into cells, in the model and here. -/
theorem fill_sound (place : Nat → Option (Nat × Nat)) (g : Opd → AV) : ∀ (ps : List (Nat × Nat × Opd)) (vs : List (Nat × Value)) (cs : List AV) (us : Array Value) (cs' : List AV), ps.length = vs.length →
    (∀ (i : Nat) (p : Nat × Nat × Opd) (v : Nat × Value), ps[i]? = some p → vs[i]? = some v → place v.1 = some (p.1, p.2.1) ∧ CRep β Z w (g p.2.2) v.2) → Cells β Z w cs us → buildV g cs ps = some cs' → ∃ us', Instr.fill place us vs = some us' ∧ Cells β Z w cs' us'
  | [], [], cs, us, cs', _, _, hc, hb => by
    simp only [buildV, Option.some.injEq] at hb
    subst hb
    exact ⟨us, rfl, hc⟩
  | [], _ :: _, _, _, _, hl, _, _, _ => by simp at hl
  | _ :: _, [], _, _, _, hl, _, _, _ => by simp at hl
  | p :: ps, v :: vs, cs, us, cs', hl, hp, hc, hb => by
    simp only [buildV] at hb
    split at hb
    · rename_i hk
      obtain ⟨h1, h2, h3⟩ := hk
      obtain ⟨hpl, hv⟩ := hp 0 p v rfl rfl
      have hv' := cells_rep hv h3
      have hsz : v.2.cells.size = p.2.1 := by rw [hv'.len, h1]
      have hfit : p.1 + v.2.cells.size ≤ us.size := by rw [hsz, hc.len]; exact h2
      have hgl := setCells_get cs (g p.2.2).cells p.1
      have hnew : Cells β Z w (setCells cs p.1 (g p.2.2).cells) (v.2.cells.zipIdx.foldl (fun cs (q : Value × Nat) => cs.setIfInBounds (p.1 + q.2) q.1) us) := by
        have hf : v.2.cells.zipIdx.foldl (fun cs (q : Value × Nat) => cs.setIfInBounds (p.1 + q.2) q.1) us = us.mapIdx fun j x => if p.1 ≤ j then (v.2.cells.toList[j - p.1]?).getD x else x := by
          rw [← Array.foldl_toList, Array.toList_zipIdx]
          exact zipIdx_fold v.2.cells.toList p.1 0 us
        rw [hf]
        have hget : ∀ j, j < us.size → (us.mapIdx fun j x => if p.1 ≤ j then (v.2.cells.toList[j - p.1]?).getD x else x).getD j undef = if p.1 ≤ j ∧ j < p.1 + v.2.cells.size then v.2.cells.getD (j - p.1) undef else us.getD j undef := by
          intro j hj
          simp only [Array.getD_eq_getD_getElem?, Array.getElem?_mapIdx, Array.getElem?_eq_getElem hj, Option.map_some, Option.getD_some]
          by_cases e : p.1 ≤ j
          · by_cases e2 : j < p.1 + v.2.cells.size
            · have : j - p.1 < v.2.cells.size := by omega
              simp [e, e2, this]
            · have : ¬ (j - p.1 < v.2.cells.size) := by omega
              simp [e, e2, Array.getElem?_eq_none (Nat.le_of_not_lt this)]
          · simp [e]
        refine ⟨by rw [Array.size_mapIdx, hc.len, setCells_length _ _ _ (by omega)], fun j hj => ?_, fun j c hj => ?_⟩
        · have hj' : j < us.size := by simpa using hj
          rw [hget j hj']
          by_cases e : p.1 ≤ j ∧ j < p.1 + v.2.cells.size
          · rw [if_pos e]; exact hv'.one _ (by omega)
          · rw [if_neg e]; exact hc.one j hj'
        · have hjl : j < cs.length := by
            have := (List.getElem?_eq_some_iff.1 hj).1
            rwa [setCells_length _ _ _ (by omega)] at this
          rw [hget j (by rw [hc.len]; exact hjl)]
          rw [hgl j (by omega)] at hj
          by_cases e : j < p.1
          · rw [if_pos e] at hj
            rw [if_neg (by omega)]
            exact hc.rep j c hj
          · rw [if_neg e] at hj
            by_cases e2 : j < p.1 + (g p.2.2).cells.length
            · rw [if_pos e2] at hj
              rw [if_pos (by omega)]
              exact hv'.rep _ c hj
            · rw [if_neg e2] at hj
              rw [if_neg (by omega)]
              exact hc.rep j c hj
      obtain ⟨us', h4, h5⟩ := fill_sound place g ps vs _ _ cs' (by simpa using hl) (fun i q u hq hu => hp (i + 1) q u (by simpa using hq) (by simpa using hu)) hnew hb
      refine ⟨us', ?_, h5⟩
      obtain ⟨vi, vv⟩ := v
      simp only at hpl hsz hfit h4 ⊢
      simp only [Instr.fill, hpl]
      rw [if_neg (by simp [hsz]; omega)]
      exact h4
    · cases hb

/-! ### equality of structs -/
theorem scEq_sound {k : Nat} {x y : AV} {u v : Value} {b : Bool} (hx : CRep β Z w x u) (hy : CRep β Z w y v) (h : scEq k x y = some b) {t : TypeId} {td : TypeDesc} (ht : P.underlying t = some td)
    (hk : td = .bool ∧ k = 0 ∨ td = .string ∧ k = 1 ∨ ∃ kk, td = .int kk ∧ k = 2) (d : Nat) : (Op.equalIn (d + 1) t u v).run P w = .ok b w := by
  unfold scEq at h
  split at h
  · rw [hx.sc_inv, hy.sc_inv]
    split at h
    · rename_i hkk
      subst hkk
      injection h with h
      subst h
      rcases hk with ⟨_, hk⟩ | ⟨_, hk⟩ | ⟨kk, rfl, hk⟩
      · omega
      · omega
      · exact run_equalIn_int w d t _ kk _ _ ht
    · cases h
  · rw [hx.sc_inv, hy.sc_inv]
    injection h with h
    subst h
    rcases hk with ⟨rfl, hk⟩ | ⟨_, hk⟩ | ⟨kk, rfl, hk⟩
    · exact run_equalIn_bool' w d t _ _ ht
    · omega
    · omega
  · rw [hx.sc_inv, hy.sc_inv]
    injection h with h
    subst h
    rcases hk with ⟨_, hk⟩ | ⟨rfl, hk⟩ | ⟨kk, rfl, hk⟩
    · omega
    · rw [run_equalIn_string w d t _ _ ht, beq_toListBytes]
    · omega
  · cases h

/-- A type whose values are equal where their cells are: the cells' kinds. -/
def shapeFields (P : Program) (sh : TypeId → Option (List Nat)) : List Field → Nat → Option (List Nat)
  | [], _ => some []
  | f :: fs, acc => if f.name ≠ "_" ∧ f.offset = acc ∧ (agOf P f.type).isSome then (sh f.type).bind fun ks => if szOf P f.type = some ks.length ∧ 0 < ks.length then (shapeFields P sh fs (acc + ks.length)).bind fun r => some (ks ++ r) else none else none
def eqShape (P : Program) : Nat → TypeId → Option (List Nat)
  | 0, _ => none
  | d + 1, t => match P.underlying t with
    | some (.int _) => some [2]
    | some .bool => some [0]
    | some .string => some [1]
    | some (.struct _) => if P.stoodInHeld t then none else shapeFields P (eqShape P d) (P.fieldsOf t).toList 0
    | some (.array n e) => if (agOf P e).isSome then (eqShape P d e).bind fun ks => if szOf P e = some ks.length ∧ 0 < ks.length then some (List.replicate n ks).flatten else none else none
    | _ => none

theorem scEqs_split : ∀ (ks rs : List Nat) (as bs : List AV) (b : Bool), scEqs (ks ++ rs) as bs = some b →
    ∃ b1 b2, scEqs ks (as.take ks.length) (bs.take ks.length) = some b1 ∧ scEqs rs (as.drop ks.length) (bs.drop ks.length) = some b2 ∧ b = (b1 && b2)
  | [], rs, as, bs, b, h => ⟨true, b, by simp [scEqs], by simpa using h, by simp⟩
  | k :: ks, rs, [], bs, b, h => by simp [scEqs] at h
  | k :: ks, rs, a :: as, [], b, h => by simp [scEqs] at h
  | k :: ks, rs, a :: as, c :: bs, b, h => by
    simp only [List.cons_append, scEqs, Option.bind_eq_some_iff] at h
    obtain ⟨x, hx, y, hy, h⟩ := h
    obtain ⟨b1, b2, h1, h2, h3⟩ := scEqs_split ks rs as bs y hy
    refine ⟨x && b1, b2, ?_, by simpa using h2, ?_⟩
    · simp [scEqs, hx, h1]
    · injection h with h
      rw [← h, h3, Bool.and_assoc]

theorem scEqs_length : ∀ (ks : List Nat) (as bs : List AV) (b : Bool), scEqs ks as bs = some b → as.length = ks.length ∧ bs.length = ks.length
  | [], [], [], _, _ => ⟨rfl, rfl⟩
  | [], [], _ :: _, _, h => by simp [scEqs] at h
  | [], _ :: _, _, _, h => by simp [scEqs] at h
  | _ :: _, [], _, _, h => by simp [scEqs] at h
  | _ :: _, _ :: _, [], _, h => by simp [scEqs] at h
  | k :: ks, a :: as, c :: bs, b, h => by
    simp only [scEqs, Option.bind_eq_some_iff] at h
    obtain ⟨x, hx, y, hy, h⟩ := h
    have := scEqs_length ks as bs y hy
    simp [this.1, this.2]

theorem Cells.sub {cs : List AV} {us : Array Value} (h : Cells β Z w cs us) (o n : Nat) (hn : o + n ≤ cs.length) : Cells β Z w ((cs.drop o).take n) (us.extract o (o + n)) := by
  have hg : ∀ j, j < n → (us.extract o (o + n)).getD j undef = us.getD (o + j) undef := fun j hj => by
    have h1 := h.len
    simp only [Array.getD_eq_getD_getElem?, Array.getElem?_extract]
    rw [if_pos (by omega)]
  have hl := h.len
  have hs : (us.extract o (o + n)).size = n := by simp; omega
  refine ⟨by rw [hs]; simp; omega, fun j hj => ?_, fun j c hc => ?_⟩
  · rw [hs] at hj
    rw [hg j hj]
    exact h.one _ (by omega)
  · have hj : j < n := by have := (List.getElem?_eq_some_iff.1 hc).1; simp at this; omega
    rw [hg j hj]
    rw [List.getElem?_take_of_lt hj, List.getElem?_drop] at hc
    exact h.rep _ c hc

/-- The value of a type that is made of cells. -/
def valOf (P : Program) (t : TypeId) (us : Array Value) : Value := if agOf P t = some true then .agg us else us.getD 0 undef

theorem run_part' {t : TypeId} {n : Nat} {ag : Bool} (hs : szOf P t = some n) (ha : agOf P t = some ag) (h1 : 0 < n) (us : Array Value) (o : Nat) (hn : o + n ≤ us.size) : (part t us o).run P w = .ok (valOf P t (us.extract o (o + n))) w := by
  unfold part valOf
  simp only [Sem.run_bind, run_isAgg' ha, Result.andThen_ok, ha]
  cases ag with
  | true => simp [run_sizeOf' hs]
  | false =>
    have : o < us.size := by omega
    have h2 : (us.extract o (o + n)).getD 0 undef = us[o] := by
      simp only [Array.getD_eq_getD_getElem?, Array.getElem?_extract]
      rw [if_pos (by omega)]
      simp [this]
    simp [this, h2]

theorem drop_take (l : List AV) (a b c : Nat) : (l.drop a).drop b = l.drop (a + b) := by rw [List.drop_drop]

theorem equalIn_sound : ∀ (d : Nat) (t : TypeId) (ks : List Nat), eqShape P d t = some ks → ∀ (D : Nat), d ≤ D → ∀ (as bs : List AV) (us vs : Array Value) (b : Bool), Cells β Z w as us → Cells β Z w bs vs → scEqs ks as bs = some b →
    (Op.equalIn D t (valOf P t us) (valOf P t vs)).run P w = .ok b w
  | 0, _, _, h => by simp [eqShape] at h
  | d + 1, t, ks, h => by
    intro D hD as bs us vs b ha hb hq
    obtain ⟨D, rfl⟩ : ∃ m, D = m + 1 := ⟨D - 1, by omega⟩
    have hlen := scEqs_length ks as bs b hq
    simp only [eqShape] at h
    have leaf : ∀ (k : Nat) (td : TypeDesc), P.underlying t = some td → (td = .bool ∧ k = 0 ∨ td = .string ∧ k = 1 ∨ ∃ kk, td = .int kk ∧ k = 2) → ks = [k] → (Op.equalIn (D + 1) t (valOf P t us) (valOf P t vs)).run P w = .ok b w := by
      intro k td ht hk he
      subst he
      have hag : agOf P t = some false := by
        unfold agOf
        rw [ht]
        rcases hk with ⟨rfl, _⟩ | ⟨rfl, _⟩ | ⟨kk, rfl, _⟩ <;> rfl
      obtain ⟨x, rfl⟩ : ∃ x, as = [x] := by
        match as, hlen.1 with
        | [x], _ => exact ⟨x, rfl⟩
      obtain ⟨y, rfl⟩ : ∃ y, bs = [y] := by
        match bs, hlen.2 with
        | [y], _ => exact ⟨y, rfl⟩
      simp only [scEqs, Option.bind_eq_some_iff] at hq
      obtain ⟨p, hp, q, hq1, hq2⟩ := hq
      simp only [Option.some.injEq] at hq1 hq2
      subst hq1
      simp only [Bool.and_true] at hq2
      subst hq2
      unfold valOf
      rw [hag]
      simp only [Option.some.injEq, Bool.false_eq_true, if_false]
      exact scEq_sound (ha.rep 0 x rfl) (hb.rep 0 y rfl) hp ht hk D
    split at h
    · rename_i k ht
      injection h with h
      exact leaf 2 _ ht (.inr (.inr ⟨k, rfl, rfl⟩)) h.symm
    · rename_i ht
      injection h with h
      exact leaf 0 _ ht (.inl ⟨rfl, rfl⟩) h.symm
    · rename_i ht
      injection h with h
      exact leaf 1 _ ht (.inr (.inl ⟨rfl, rfl⟩)) h.symm
    · rename_i fs ht
      split at h
      · cases h
      · rename_i hst
        have hag : agOf P t = some true := by unfold agOf; rw [ht]; rfl
        have hfo : P.underlying t = some (.struct (P.fieldsOf t)) := by rw [ht]; simp [Program.fieldsOf, ht]
        unfold valOf
        rw [hag, if_pos rfl, if_pos rfl, run_equalIn_struct w D t us vs hfo (by simpa using hst)]
        -- the fields, one after the other
        have key : ∀ (fl : List Field) (acc : Nat) (ks : List Nat) (b : Bool), shapeFields P (eqShape P d) fl acc = some ks → scEqs ks (as.drop acc) (bs.drop acc) = some b → acc + ks.length ≤ as.length → acc + ks.length ≤ bs.length → (Op.eqFields D us vs fl).run P w = .ok b w := by
          intro fl
          induction fl with
          | nil =>
            intro acc ks b h1 h2 h3 h4
            simp only [shapeFields, Option.some.injEq] at h1
            subst h1
            have := scEqs_length _ _ _ _ h2
            have e1 : as.drop acc = [] := List.eq_nil_of_length_eq_zero this.1
            have e2 : bs.drop acc = [] := List.eq_nil_of_length_eq_zero this.2
            rw [e1, e2] at h2
            simp only [scEqs, Option.some.injEq] at h2
            subst h2
            simp [Op.eqFields]
          | cons f fl ih =>
            intro acc ks b h1 h2 h3 h4
            simp only [shapeFields] at h1
            split at h1
            · rename_i hf
              obtain ⟨hn, ho, hi⟩ := hf
              obtain ⟨ks1, hk1, h1⟩ := Option.bind_eq_some_iff.1 h1
              split at h1
              · rename_i hz
                obtain ⟨rest, hr, h1⟩ := Option.bind_eq_some_iff.1 h1
                injection h1 with h1
                subst h1
                obtain ⟨ag, hag'⟩ := Option.isSome_iff_exists.1 hi
                obtain ⟨b1, b2, q1, q2, q3⟩ := scEqs_split ks1 rest _ _ b h2
                simp only [List.length_append] at h3 h4
                have e1 := equalIn_sound d f.type ks1 hk1 D (by omega) _ _ _ _ b1 (ha.sub acc ks1.length (by omega)) (hb.sub acc ks1.length (by omega)) q1
                have p1 := run_part' (P := P) (w := w) hz.1 hag' hz.2 us acc (by rw [ha.len]; omega)
                have p2 := run_part' (P := P) (w := w) hz.1 hag' hz.2 vs acc (by rw [hb.len]; omega)
                have e2 := ih (acc + ks1.length) rest b2 hr (by rw [← List.drop_drop, ← List.drop_drop]; exact q2) (by omega) (by omega)
                simp only [Op.eqFields, hn, ne_eq, not_false_eq_true, if_true, ho, Sem.run_bind, p1, p2, e1, Result.andThen_ok]
                cases b1
                · simp [q3]
                · simp [q3, e2]
              · cases h1
            · cases h1
        exact key _ 0 ks b h (by simpa using hq) (by omega) (by omega)
    · rename_i n e ht
      split at h
      · rename_i hi
        obtain ⟨ag, hag'⟩ := Option.isSome_iff_exists.1 hi
        obtain ⟨ks1, hk1, h⟩ := Option.bind_eq_some_iff.1 h
        split at h
        · rename_i hz
          injection h with h
          subst h
          have hag : agOf P t = some true := by unfold agOf; rw [ht]; rfl
          unfold valOf
          rw [hag, if_pos rfl, if_pos rfl]
          have hfl : ∀ m, (List.replicate m ks1).flatten.length = m * ks1.length := fun m => by simp
          have key : ∀ (m i : Nat) (b : Bool), i + m = n → scEqs (List.replicate m ks1).flatten (as.drop (i * ks1.length)) (bs.drop (i * ks1.length)) = some b →
              (Op.eqItems D e ks1.length us vs (List.range' i m)).run P w = .ok b w := by
            intro m
            induction m with
            | zero =>
              intro i b hi' h2
              have := scEqs_length _ _ _ _ h2
              simp only [List.replicate_zero, List.flatten_nil, List.length_nil] at this
              have e1 : as.drop (i * ks1.length) = [] := List.eq_nil_of_length_eq_zero this.1
              have e2 : bs.drop (i * ks1.length) = [] := List.eq_nil_of_length_eq_zero this.2
              rw [e1, e2] at h2
              simp only [List.replicate_zero, List.flatten_nil, scEqs, Option.some.injEq] at h2
              subst h2
              simp [Op.eqItems]
            | succ m ih =>
              intro i b hi' h2
              rw [List.replicate_succ, List.flatten_cons] at h2
              have hlen' := scEqs_length _ _ _ _ h2
              simp only [List.length_append, hfl, List.length_drop] at hlen'
              obtain ⟨b1, b2, q1, q2, q3⟩ := scEqs_split ks1 _ _ _ b h2
              have hp := hz.2
              have l1 : i * ks1.length + ks1.length ≤ as.length := by omega
              have l2 : i * ks1.length + ks1.length ≤ bs.length := by omega
              have e1 := equalIn_sound d e ks1 hk1 D (by omega) _ _ _ _ b1 (ha.sub (i * ks1.length) ks1.length l1) (hb.sub (i * ks1.length) ks1.length l2) q1
              have p1 := run_part' (P := P) (w := w) hz.1 hag' hz.2 us (i * ks1.length) (by rw [ha.len]; exact l1)
              have p2 := run_part' (P := P) (w := w) hz.1 hag' hz.2 vs (i * ks1.length) (by rw [hb.len]; exact l2)
              have e2 := ih (i + 1) b2 (by omega) (by rw [Nat.add_mul, Nat.one_mul, ← List.drop_drop, ← List.drop_drop]; exact q2)
              rw [List.range'_succ]
              simp only [Op.eqItems, Sem.run_bind, p1, p2, e1, Result.andThen_ok]
              cases b1
              · simp [q3]
              · simp [q3, e2]
          have := key n 0 b (by omega) (by simpa using hq)
          obtain ⟨inf, hi1, hi2⟩ := Option.map_eq_some_iff.1 (show (P.info? e).map (·.size) = some ks1.length from hz.1)
          rw [run_equalIn_array w D us vs ht hi1, List.range_eq_range', show P.cellsOf e = ks1.length by simp [Program.cellsOf, hi1, hi2]]
          exact this
        · cases h
      · cases h
    · cases h

end
end Go.Proofs.YtbmlhmgldipnhabGreatE
