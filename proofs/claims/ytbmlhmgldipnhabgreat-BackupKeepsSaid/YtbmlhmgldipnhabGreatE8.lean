/-
  The engine, part 8: the model's operations do what part 4 says: those that make or turn objects.
-/
import Derived.Test.YtbmlhmgldipnhabGreatE7
set_option linter.unusedVariables false
set_option linter.unusedSimpArgs false
namespace Go.Proofs.YtbmlhmgldipnhabGreatE
open Go

/-- Elements of sz cells each, by the cells one behind the other. -/
structure Flat (R : AV → Value → Prop) (sz : Nat) (es : List (List AV)) (f : Nat → Value) : Prop where
  size : ∀ (i : Nat) (e : List AV), es[i]? = some e → e.length = sz
  rep : ∀ (i j : Nat) (c : AV), cellAt es i j = some c → R c (f (i * sz + j))
  one : ∀ x, x < es.length * sz → (f x).oneCell' = true

theorem cellAt_lt {es : List (List AV)} {i j : Nat} {c : AV} (h : cellAt es i j = some c) : ∃ e, es[i]? = some e ∧ e[j]? = some c ∧ i < es.length ∧ j < e.length := by
  obtain ⟨e, h1, h2⟩ := Option.bind_eq_some_iff.1 h
  exact ⟨e, h1, h2, (List.getElem?_eq_some_iff.1 h1).1, (List.getElem?_eq_some_iff.1 h2).1⟩

theorem Flat.at_ {R : AV → Value → Prop} {sz : Nat} {es : List (List AV)} {f : Nat → Value} (h : Flat R sz es f) {x : Nat} (hx : x < es.length * sz) : ∃ c, cellAt es (x / sz) (x % sz) = some c ∧ x / sz * sz + x % sz = x := by
  have hs : 0 < sz := by
    rcases Nat.eq_zero_or_pos sz with h0 | h0
    · subst h0; simp at hx
    · exact h0
  have h1 : x / sz < es.length := by rw [Nat.div_lt_iff_lt_mul hs]; exact hx
  have h2 : x % sz < sz := Nat.mod_lt _ hs
  have h3 := h.size _ _ (List.getElem?_eq_getElem h1)
  refine ⟨es[x / sz][x % sz]'(by omega), ?_, by rw [Nat.mul_comm]; exact Nat.div_add_mod x sz⟩
  simp only [cellAt, List.getElem?_eq_getElem h1, Option.bind_some]
  exact List.getElem?_eq_getElem (by omega)

theorem Flat.imp {R R' : AV → Value → Prop} {sz : Nat} {es : List (List AV)} {f g : Nat → Value} (h : Flat R sz es f) (hf : ∀ x, x < es.length * sz → g x = f x) (hr : ∀ c u, R c u → R' c u) : Flat R' sz es g := by
  refine ⟨h.size, fun i j c hc => ?_, fun x hx => by rw [hf x hx]; exact h.one x hx⟩
  obtain ⟨e, h1, h2, h3, h4⟩ := cellAt_lt hc
  rw [hf _ (mul_lt_row h3 (by rw [← h.size i e h1]; exact h4))]
  exact hr _ _ (h.rep i j c hc)

theorem Flat.append {R : AV → Value → Prop} {sz : Nat} {es es' : List (List AV)} {f g : Nat → Value} (h : Flat R sz es f) (k : Flat R sz es' g) : Flat R sz (es ++ es') (fun x => if x < es.length * sz then f x else g (x - es.length * sz)) := by
  refine ⟨fun i e he => ?_, fun i j c hc => ?_, fun x hx => ?_⟩
  · by_cases l : i < es.length
    · rw [List.getElem?_append_left l] at he; exact h.size i e he
    · rw [List.getElem?_append_right (by omega)] at he; exact k.size _ e he
  · obtain ⟨e, h1, h2, h3, h4⟩ := cellAt_lt hc
    by_cases l : i < es.length
    · rw [List.getElem?_append_left l] at h1
      rw [if_pos (mul_lt_row l (by rw [← h.size i e h1]; exact h4))]
      exact h.rep i j c (by simp [cellAt, h1, h2])
    · rw [List.getElem?_append_right (by omega)] at h1
      have hl : es.length * sz ≤ i * sz := Nat.mul_le_mul_right _ (by omega)
      rw [if_neg (by omega)]
      have := k.rep (i - es.length) j c (by simp [cellAt, h1, h2])
      rw [Nat.sub_mul] at this
      rwa [show i * sz + j - es.length * sz = i * sz - es.length * sz + j by omega]
  · rw [List.length_append, Nat.add_mul] at hx
    by_cases l : x < es.length * sz
    · rw [if_pos l]; exact h.one x l
    · rw [if_neg l]; exact k.one _ (by omega)

theorem Flat.sub {R : AV → Value → Prop} {sz : Nat} {es : List (List AV)} {f : Nat → Value} (h : Flat R sz es f) (i n : Nat) (hn : i + n ≤ es.length) : Flat R sz ((es.drop i).take n) (fun x => f (i * sz + x)) := by
  have hg : ∀ (j : Nat) (e : List AV), ((es.drop i).take n)[j]? = some e → j < n ∧ es[i + j]? = some e := fun j e he => by
    have hj : j < n := by have := (List.getElem?_eq_some_iff.1 he).1; simp at this; omega
    rw [List.getElem?_take_of_lt hj, List.getElem?_drop] at he
    exact ⟨hj, he⟩
  refine ⟨fun j e he => h.size _ e (hg j e he).2, fun j k c hc => ?_, fun x hx => ?_⟩
  · obtain ⟨e, h1, h2, h3, h4⟩ := cellAt_lt hc
    obtain ⟨hj, he⟩ := hg j e h1
    have := h.rep (i + j) k c (by simp [cellAt, he, h2])
    rwa [Nat.add_mul, Nat.add_assoc] at this
  · have hl : ((es.drop i).take n).length = n := by simp; omega
    rw [hl] at hx
    refine h.one _ ?_
    have h1 : (i + n) * sz ≤ es.length * sz := Nat.mul_le_mul_right _ hn
    rw [Nat.add_mul] at h1
    omega

theorem RowRep.flat {R : AV → Value → Prop} {Z : Froz} {w : World} {sz : Nat} {es : List (List AV)} {b o : Nat} (h : RowRep R Z w sz es b o) : ∃ arr t, w.heap[b]? = some (.cells arr t (0, 0)) ∧ o + es.length * sz ≤ arr.size ∧ Flat R sz es (fun x => arr.getD (o + x) undef) ∧ (∀ x, o ≤ x → ¬ Z b x) ∧ ∀ x, x < arr.size → (arr.getD x undef).oneCell' = true := by
  obtain ⟨arr, t, h1, h2, h3, h4, h5, h6⟩ := h
  exact ⟨arr, t, h1, h2, ⟨h3, h4, fun x hx => h6 _ (by omega)⟩, h5, h6⟩

theorem RowRep.of {R : AV → Value → Prop} {Z : Froz} {w : World} {sz : Nat} {es : List (List AV)} {b o : Nat} {arr : Array Value} {t : TypeId} (h1 : w.heap[b]? = some (.cells arr t (0, 0))) (h2 : o + es.length * sz ≤ arr.size) (h3 : Flat R sz es (fun x => arr.getD (o + x) undef)) (h5 : ∀ x, o ≤ x → ¬ Z b x) (h6 : ∀ x, x < arr.size → (arr.getD x undef).oneCell' = true) : RowRep R Z w sz es b o :=
  ⟨arr, t, h1, h2, h3.size, h3.rep, h5, h6⟩

theorem all_plain {es : List (List AV)} (h : (es.all (·.all AV.plain)) = true) {i j : Nat} {c : AV} (hc : cellAt es i j = some c) : c.free = true := by
  obtain ⟨e, h1, h2, _, _⟩ := cellAt_lt hc
  have := List.all_eq_true.1 (List.all_eq_true.1 h e (List.mem_of_getElem? h1)) c (List.mem_of_getElem? h2)
  simp only [AV.plain, Bool.and_eq_true] at this
  exact this.2

theorem nodeOf_rep {β : Places} {Z : Froz} {w : World} {k sz : Nat} {es : List (List AV)} {b o : Nat} (hb : β k = some (b, o)) (h : RowRep (CRep β Z w) Z w sz es b o) : NRep β Z w k (nodeOf sz es) := by
  unfold nodeOf
  split
  · rename_i hp
    refine .inr ⟨b, o, hb, ?_⟩
    obtain ⟨arr, t, h1, h2, h3, h4, h5⟩ := h
    exact ⟨arr, t, h1, h2, h3, fun i j c hc => (h4 i j c hc).frozen (all_plain hp hc), h5⟩
  · exact ⟨b, o, hb, h⟩

/-- What is known of a row's object. -/
theorem node_row {β : Places} {Z : Froz} {w : World} {k sz : Nat} {es : List (List AV)} {nd : Node} (hn : nd = .row sz es ∨ nd = .arow sz es) (h : NRep β Z w k nd) : (es = [] ∧ β k = none) ∨ ∃ b o, β k = some (b, o) ∧ RowRep (CRep β Z w) Z w sz es b o := by
  rcases hn with rfl | rfl
  · rcases h with h | ⟨b, o, h1, arr, t, h2, h3, h4, h5, h6⟩
    · exact .inl h
    · exact .inr ⟨b, o, h1, arr, t, h2, h3, h4, fun i j c hc => .fro (h5 i j c hc), h6⟩
  · exact .inr h

section
variable {P : Program} {N : Nat} {β : Places} {Z : Froz} {s : St} {a : Act} {w : World}

/-- A value laid into new memory. -/
theorem Rel.newRow (r : Rel N β Z s a w) {m : Nat} (hm : m ∉ s.nm) {d : Option Nat} (hd : ∀ x, d = some x → x < N) {sz : Nat} {es : List (List AV)} {arr : Array Value} {t : TypeId} {v : AV} {u : Value}
    (w' : World) (hp : Pushed w w' (.cells arr t)) (hf : Flat (CRep β Z w) sz es (fun x => arr.getD x undef)) (hl : es.length * sz ≤ arr.size) (h1 : ∀ x, x < arr.size → (arr.getD x undef).oneCell' = true)
    (hv : ∀ β' : Places, β' m = some (w.heap.size, 0) → (∃ t n, w'.shape? w.heap.size = some (t, n) ∧ es.length * sz ≤ n ∧ n = arr.size) → CRep β' Z w' v u) :
    Rel N (β.set m (w.heap.size, 0)) Z (s.new d v m (nodeOf sz es)) (a.put d u) w' ∧ SExt β Z s w (β.set m (w.heap.size, 0)) Z (s.new d v m (nodeOf sz es)) w' := by
  have kp := hp.keeps r.froz
  have hle := Places.set_le (p := (w.heap.size, 0)) (r.unnamed hm)
  refine r.alloc hp hm (nodeOf_rep Places.set_new (RowRep.of hp.new (by omega) (by simpa using hf.imp (fun _ _ => rfl) fun c u hc => hc.keeps kp hle) (fun x _ hz => by have := r.froz _ _ hz; omega) h1)) (hv _ Places.set_new ⟨t, arr.size, by simp [World.shape?, hp.new], hl, rfl⟩) hd

theorem flat_one {cs : List AV} {us : Array Value} (h : Cells β Z w cs us) : Flat (CRep β Z w) cs.length [cs] (fun x => us.getD x undef) := by
  refine ⟨fun i e he => ?_, fun i j c hc => ?_, fun x hx => h.one x (by have := h.len; simp at hx; omega)⟩
  · match i, he with
    | 0, he => simp at he; subst he; rfl
    | i + 1, he => simp at he
  · obtain ⟨e, h1, h2, h3, h4⟩ := cellAt_lt hc
    match i, h1 with
    | 0, h1 => simp at h1; subst h1; simpa using h.rep j c h2
    | i + 1, h1 => simp at h1

theorem newRow_pushed {arr : Array Value} {t : TypeId} : (newRow t arr).run P w = .ok ⟨w.heap.size, 0, none⟩ { w with heap := w.heap.push (.cells arr t) } := rfl
theorem pushed (w : World) (o : Obj) : Pushed w { w with heap := w.heap.push o } o := ⟨rfl, rfl, rfl, rfl⟩

theorem box_sound (r : Rel N β Z s a w) {m : Nat} (hm : m ∉ s.nm) {d : Option Nat} (hd : ∀ x, d = some x → x < N) {t : TypeId} {x : AV} {u : Value} (hx : CRep β Z w x u) (h1 : x.cells.all AV.one = true) :
    ∃ u' w' β', (Instr.box t u).run P w = .ok u' w' ∧ Rel N β' Z (s.new d (.ptr m x.cells.length 0 0) m (nodeOf x.cells.length [x.cells])) (a.put d u') w' ∧ SExt β Z s w β' Z (s.new d (.ptr m x.cells.length 0 0) m (nodeOf x.cells.length [x.cells])) w' := by
  have hc := cells_rep hx h1
  refine ⟨.pointer (some ⟨w.heap.size, 0, none⟩), { w with heap := w.heap.push (.cells u.cells t) }, _, ?_, r.newRow hm hd _ (pushed w _) (flat_one hc) (by simp [hc.len]) hc.one fun β' hβ _ => ?_⟩
  · simp [Instr.box, newVar, newRow_pushed]
  · have := CRep.ptr (β := β') (Z := Z) (w := { w with heap := w.heap.push (.cells u.cells t) }) m x.cells.length 0 0 _ _ hβ
    simpa using this

theorem zeros_rep {z : Value} {zs : List AV} (hz : z.cells.toList.mapM (fun v => if v.oneCell' then some (cVal v) else none) = some zs) : Cells β Z w zs z.cells := by
  have key : ∀ (l : List Value) (zs : List AV), l.mapM (fun v => if v.oneCell' then some (cVal v) else none) = some zs → l.length = zs.length ∧ ∀ (j : Nat) (v : Value), l[j]? = some v → v.oneCell' = true ∧ zs[j]? = some (cVal v) := by
    intro l
    induction l with
    | nil => intro zs h; simp at h; subst h; simp
    | cons v l ih =>
      intro zs h
      rw [List.mapM_cons] at h
      simp only [Option.bind_eq_bind, Option.bind_eq_some_iff] at h
      obtain ⟨x, hx, y, hy, h⟩ := h
      injection h with h
      subst h
      split at hx
      · rename_i h1
        injection hx with hx
        subst hx
        obtain ⟨e1, e2⟩ := ih y hy
        refine ⟨by simp [e1], fun j v' hj => ?_⟩
        cases j with
        | zero => simp at hj; subst hj; exact ⟨h1, by simp⟩
        | succ j => simpa using e2 j v' (by simpa using hj)
      · cases hx
  obtain ⟨e1, e2⟩ := key _ _ hz
  have hs : z.cells.size = zs.length := by rw [← e1]; simp
  refine ⟨hs, fun j hj => ?_, fun j c hc => ?_⟩
  · have := (e2 j (z.cells[j]) (by simp [hj])).1
    simpa [Array.getD_eq_getD_getElem?, hj] using this
  · have hj : j < z.cells.size := by rw [hs]; exact (List.getElem?_eq_some_iff.1 hc).1
    have := e2 j (z.cells[j]) (by simp [hj])
    rw [this.2] at hc
    injection hc with hc
    subst hc
    simp only [Array.getD_eq_getD_getElem?, Array.getElem?_eq_getElem hj, Option.getD_some]
    exact .fro (cVal_rep Z w _ this.1)

def zeroOf (P : Program) (t : TypeId) : Option (List AV) := ((P.info? t).bind (·.zero)).bind fun z => z.cells.toList.mapM fun v => if v.oneCell' then some (cVal v) else none
theorem zeroOf_run {t : TypeId} {zs : List AV} (h : zeroOf P t = some zs) : ∃ z, (∀ w, (zeroValue t).run P w = .ok z w) ∧ ∀ (β : Places) (Z : Froz) (w : World), Cells β Z w zs z.cells := by
  unfold zeroOf at h
  obtain ⟨z, hz, h⟩ := Option.bind_eq_some_iff.1 h
  obtain ⟨i, hi, hz⟩ := Option.bind_eq_some_iff.1 hz
  exact ⟨z, fun w => by simp [zeroValue, typeInfo, hi, hz], fun β Z w => zeros_rep h⟩

theorem alloc_sound (r : Rel N β Z s a w) {m : Nat} (hm : m ∉ s.nm) {d : Option Nat} (hd : ∀ x, d = some x → x < N) {t : TypeId} {zs : List AV} (hz : zeroOf P t = some zs) :
    ∃ u' w' β', (Instr.alloc t true (.tuple #[])).run P w = .ok u' w' ∧ Rel N β' Z (s.new d (.ptr m zs.length 0 0) m (nodeOf zs.length [zs])) (a.put d u') w' ∧ SExt β Z s w β' Z (s.new d (.ptr m zs.length 0 0) m (nodeOf zs.length [zs])) w' := by
  obtain ⟨z, h1, h2⟩ := zeroOf_run hz
  have hc := h2 β Z w
  refine ⟨.pointer (some ⟨w.heap.size, 0, none⟩), { w with heap := w.heap.push (.cells z.cells t) }, _, ?_, r.newRow hm hd _ (pushed w _) (flat_one hc) (by simp [hc.len]) hc.one fun β' hβ _ => ?_⟩
  · simp [Instr.alloc, h1, newVar, newRow_pushed]
  · have := CRep.ptr (β := β') (Z := Z) (w := { w with heap := w.heap.push (.cells z.cells t) }) m zs.length 0 0 _ _ hβ
    simpa using this

end
end Go.Proofs.YtbmlhmgldipnhabGreatE
