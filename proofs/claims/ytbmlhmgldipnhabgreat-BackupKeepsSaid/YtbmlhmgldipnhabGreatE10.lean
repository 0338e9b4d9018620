/-
  The engine, part 10: slice literals and append.
-/
import Derived.Test.YtbmlhmgldipnhabGreatE9
set_option linter.unusedVariables false
set_option linter.unusedSimpArgs false
namespace Go.Proofs.YtbmlhmgldipnhabGreatE
open Go

section
variable {P : Program} {N : Nat} {β : Places} {Z : Froz} {s : St} {a : Act} {w : World}

theorem rep_flat_length (zs : List AV) (n : Nat) : (List.replicate n zs).flatten.length = n * zs.length := by simp
theorem rep_flat_get (zs : List AV) : ∀ (n j : Nat), j < n * zs.length → (List.replicate n zs).flatten[j]? = zs[j % zs.length]?
  | 0, j, h => by simp at h
  | n + 1, j, h => by
    rw [List.replicate_succ, List.flatten_cons]
    by_cases l : j < zs.length
    · rw [List.getElem?_append_left l, Nat.mod_eq_of_lt l]
    · rw [Nat.add_mul, Nat.one_mul] at h
      rw [List.getElem?_append_right (by omega), rep_flat_get zs n (j - zs.length) (by omega), Nat.mod_eq_sub_mod (show zs.length ≤ j by omega)]

theorem rep_cells {zs : List AV} {z : Array Value} (h : Cells β Z w zs z) (n : Nat) : Cells β Z w (List.replicate n zs).flatten ((Array.range (n * zs.length)).map fun i => z[i % z.size]!) := by
  have hz := h.len
  have hg : ∀ j, j < n * zs.length → ((Array.range (n * zs.length)).map fun i => z[i % z.size]!).getD j undef = z.getD (j % zs.length) undef := fun j hj => by
    have hp : 0 < zs.length := by
      rcases Nat.eq_zero_or_pos zs.length with h0 | h0
      · rw [h0] at hj; simp at hj
      · exact h0
    have hm : j % z.size < z.size := by rw [hz]; exact Nat.mod_lt _ hp
    simp only [Array.getD_eq_getD_getElem?, Array.getElem?_map, Array.getElem?_range, hj, if_true, Option.map_some, Option.getD_some]
    rw [← hz, getElem!_pos z _ hm, Array.getElem?_eq_getElem hm, Option.getD_some]
  refine ⟨by simp, fun j hj => ?_, fun j c hc => ?_⟩
  · have hj' : j < n * zs.length := by simpa using hj
    have hp : 0 < zs.length := by
      rcases Nat.eq_zero_or_pos zs.length with h0 | h0
      · rw [h0] at hj'; simp at hj'
      · exact h0
    rw [hg j hj']
    exact h.one _ (by rw [hz]; exact Nat.mod_lt _ hp)
  · have hj' : j < n * zs.length := by have := (List.getElem?_eq_some_iff.1 hc).1; simpa using this
    rw [hg j hj']
    rw [rep_flat_get zs n j hj'] at hc
    exact h.rep _ c hc

theorem chunk_get {sz n : Nat} {cs : List AV} (h : cs.length = n * sz) {i : Nat} {e : List AV} (he : (chunk sz n cs)[i]? = some e) : i < n ∧ e = (cs.drop (i * sz)).take sz ∧ e.length = sz := by
  unfold chunk at he
  have hi : i < n := by have := (List.getElem?_eq_some_iff.1 he).1; simpa using this
  simp [hi] at he
  subst he
  refine ⟨hi, rfl, ?_⟩
  have h1 : (i + 1) * sz ≤ n * sz := Nat.mul_le_mul_right sz hi
  rw [Nat.add_mul, Nat.one_mul] at h1
  simp
  omega
theorem chunk_length (sz n : Nat) (cs : List AV) : (chunk sz n cs).length = n := by simp [chunk]

theorem chunk_flat {sz n : Nat} {cs : List AV} {us : Array Value} (h : Cells β Z w cs us) (hl : cs.length = n * sz) : Flat (CRep β Z w) sz (chunk sz n cs) (fun x => us.getD x undef) := by
  refine ⟨fun i e he => (chunk_get hl he).2.2, fun i j c hc => ?_, fun x hx => h.one x (by rw [h.len, hl]; rwa [chunk_length] at hx)⟩
  obtain ⟨e, h1, h2, h3, h4⟩ := cellAt_lt hc
  obtain ⟨g1, g2, g3⟩ := chunk_get hl h1
  subst g2
  rw [List.getElem?_take_of_lt (by omega), List.getElem?_drop] at h2
  exact h.rep _ c h2

theorem buildV_length (g : Opd → AV) : ∀ (ps : List (Nat × Nat × Opd)) (cs cs' : List AV), buildV g cs ps = some cs' → cs'.length = cs.length
  | [], cs, cs', h => by simp only [buildV, Option.some.injEq] at h; rw [h]
  | p :: ps, cs, cs', h => by
    simp only [buildV] at h
    split at h
    · rename_i hk
      rw [buildV_length g ps _ cs' h, setCells_length _ _ _ (by omega)]
    · cases h

/-- Operands with their places. -/
def cParts (f : Nat → Option (Nat × Nat)) : List (Nat × Operand) → Option (List (Nat × Nat × Opd))
  | [] => some []
  | p :: ps => (f p.1).bind fun q => (cOpd p.2).bind fun x => (cParts f ps).bind fun r => some ((q.1, q.2, x) :: r)
theorem cParts_get (f : Nat → Option (Nat × Nat)) : ∀ (ps : List (Nat × Operand)) (qs : List (Nat × Nat × Opd)), cParts f ps = some qs → qs.length = ps.length ∧ ∀ (i : Nat) (p : Nat × Operand) (q : Nat × Nat × Opd), ps[i]? = some p → qs[i]? = some q → f p.1 = some (q.1, q.2.1) ∧ cOpd p.2 = some q.2.2
  | [], qs, h => by simp only [cParts, Option.some.injEq] at h; subst h; simp
  | p :: ps, qs, h => by
    simp only [cParts, Option.bind_eq_some_iff, Option.some.injEq] at h
    obtain ⟨q, hq, x, hx, r, hr, rfl⟩ := h
    obtain ⟨h1, h2⟩ := cParts_get f ps r hr
    refine ⟨by simp [h1], fun i p' q' hp hq' => ?_⟩
    cases i with
    | zero => simp at hp hq'; subst hp hq'; exact ⟨hq, hx⟩
    | succ i => exact h2 i p' q' (by simpa using hp) (by simpa using hq')

theorem fill_parts (r : Rel N β Z s a w) (f : Nat → Option (Nat × Nat)) (parts : Array (Nat × Operand)) {qs : List (Nat × Nat × Opd)} (hq : cParts f parts.toList = some qs) {cs cs' : List AV} {us : Array Value} (hc : Cells β Z w cs us) (hb : buildV s.get cs qs = some cs') :
    ∃ us', Instr.fill f us (parts.map fun (i, x) => (i, a.eval x)).toList = some us' ∧ Cells β Z w cs' us' := by
  obtain ⟨h1, h2⟩ := cParts_get f _ _ hq
  refine fill_sound f s.get qs _ cs us cs' (by simp [h1]) (fun i p v hp hv => ?_) hc hb
  simp only [Array.toList_map, List.getElem?_map, Option.map_eq_some_iff] at hv
  obtain ⟨p0, hp0, rfl⟩ := hv
  obtain ⟨e1, e2⟩ := h2 i p0 p (by simpa using hp0) hp
  exact ⟨e1, opd_rep r e2⟩

theorem build_sound (r : Rel N β Z s a w) {t : TypeId} {zs : List AV} (hz : zeroOf P t = some zs) {f : Nat → Option (Nat × Nat)} {parts : Array (Nat × Operand)} {qs : List (Nat × Nat × Opd)} (hq : cParts f parts.toList = some qs) {cs : List AV} (hb : buildV s.get zs qs = some cs)
    (hf : (∃ fs, P.underlying t = some (.struct fs) ∧ ∃ places : Array (Nat × Nat), (∀ w, (fs.mapM fun f => do pure (f.offset, ← sizeOf f.type) : Sem (Array (Nat × Nat))).run P w = .ok places w) ∧ f = (places[·]?)) ∨ (∃ n e sz, P.underlying t = some (.array n e) ∧ szOf P e = some sz ∧ f = fun i => some (i * sz, sz))) :
    ∃ u, (Instr.build t (parts.map fun (i, x) => (i, a.eval x))).run P w = .ok u w ∧ CRep β Z w (.agg cs) u := by
  obtain ⟨z, h1, h2⟩ := zeroOf_run hz
  obtain ⟨us, h3, h4⟩ := fill_parts r f parts hq (h2 β Z w) hb
  refine ⟨.agg us, ?_, h4.agg⟩
  rcases hf with ⟨fs, ht, places, hp, rfl⟩ | ⟨n, e, sz, ht, hs, rfl⟩
  · simp only [Instr.build, Sem.run_bind, h1, Result.andThen_ok, run_underlying ht, hp, h3]
    rfl
  · simp only [Instr.build, Sem.run_bind, h1, Result.andThen_ok, run_underlying ht, run_sizeOf' hs, h3]
    rfl

theorem bsl_sound (r : Rel N β Z s a w) {m : Nat} (hm : m ∉ s.nm) {d : Option Nat} (hd : ∀ x, d = some x → x < N) {t e : TypeId} {sz n : Nat} (ht : P.underlying t = some (.slice e)) (hs : szOf P e = some sz) (hn : n * sz ≤ 2 ^ 24) {zs : List AV} (hz : zeroOf P e = some zs) (hzs : zs.length = sz)
    {parts : Array (Nat × Operand)} {qs : List (Nat × Nat × Opd)} (hq : cParts (fun i => some (i * sz, sz)) parts.toList = some qs) {cs : List AV} (hb : buildV s.get (List.replicate n zs).flatten qs = some cs) :
    ∃ u' w' β', (Instr.buildSlice t n (parts.map fun (i, x) => (i, a.eval x))).run P w = .ok u' w' ∧ Rel N β' Z (s.new d (.sl m sz 0 n) m (nodeOf sz (chunk sz n cs))) (a.put d u') w' ∧ SExt β Z s w β' Z (s.new d (.sl m sz 0 n) m (nodeOf sz (chunk sz n cs))) w' := by
  obtain ⟨z, h1, h2⟩ := zeroOf_run hz
  have hc0 := rep_cells (h2 β Z w) n
  rw [hzs] at hc0
  obtain ⟨us, h3, h4⟩ := fill_parts r _ parts hq hc0 hb
  have hl : cs.length = n * sz := by rw [buildV_length _ _ _ _ hb, rep_flat_length, hzs]
  refine ⟨.slice (some ⟨w.heap.size, 0, none⟩) n n, { w with heap := w.heap.push (.cells us e) }, _, ?_, r.newRow hm hd _ (pushed w _) (chunk_flat h4 hl) (by rw [chunk_length, h4.len, hl]; exact Nat.le_refl _) h4.one fun β' hβ hsh => ?_⟩
  · simp only [Instr.buildSlice, Sem.run_bind, run_underlying ht, Result.andThen_ok, run_sizeOf' hs]
    rw [if_neg (by omega)]
    by_cases h0 : n * sz = 0
    · have he : ((Array.range (n * sz)).map fun i => z.cells[i % z.cells.size]!) = ((Array.range (n * sz)).map fun i => (#[] : Array Value)[i % (#[] : Array Value).size]!) := by rw [h0]; simp
      rw [he] at h3
      simp only [h0, if_true, Sem.run_bind, Sem.run_pure, Result.andThen_ok]
      rw [h0] at h3
      rw [h3]
      rfl
    · simp only [h0, if_false, Sem.run_bind, h1, Result.andThen_ok, Sem.run_pure]
      rw [h3]
      rfl
  · obtain ⟨ty, k, g1, g2, g3⟩ := hsh
    have := CRep.sl (β := β') (Z := Z) (w := { w with heap := w.heap.push (.cells us e) }) m sz 0 n w.heap.size 0 n hβ (Nat.le_refl _) ⟨ty, k, g1, by rw [g3, h4.len, hl]; omega⟩
    simpa using this

end
end Go.Proofs.YtbmlhmgldipnhabGreatE
