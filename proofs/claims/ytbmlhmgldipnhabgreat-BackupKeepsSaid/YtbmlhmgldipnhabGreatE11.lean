/-
  The engine, part 11: append.
-/
import Derived.Test.YtbmlhmgldipnhabGreatE10
import Derived.Deep.AppendSrc
set_option linter.unusedVariables false
set_option linter.unusedSimpArgs false
namespace Go.Proofs.YtbmlhmgldipnhabGreatE
open Go

section
variable {P : Program} {N : Nat} {β : Places} {Z : Froz} {s : St} {a : Act} {w : World}

theorem Flat.nil (R : AV → Value → Prop) (sz : Nat) (f : Nat → Value) : Flat R sz [] f := ⟨fun i e h => by simp at h, fun i j c h => by simp [cellAt] at h, fun x h => by simp at h⟩

/-- The cells of a flat row, as a list. -/
def cellsList (n : Nat) (f : Nat → Value) : List Value := (List.range n).map f
theorem cellsList_get (n : Nat) (f : Nat → Value) (x : Nat) (h : x < n) : ((cellsList n f)[x]?).getD undef = f x := by simp [cellsList, h]
theorem cellsList_len (n : Nat) (f : Nat → Value) : (cellsList n f).length = n := by simp [cellsList]
theorem cellsList_at {n : Nat} {f : Nat → Value} {x : Nat} {v : Value} (h : (cellsList n f)[x]? = some v) : x < n ∧ v = f x := by
  have hx : x < n := by have := (List.getElem?_eq_some_iff.1 h).1; simpa [cellsList] using this
  simp [cellsList, hx] at h
  exact ⟨hx, h.symm⟩

theorem Flat.src {sz : Nat} {es : List (List AV)} {f : Nat → Value} (h : Flat (CRep β Z w) sz es f) {tx e' : TypeId} (hk : P.underlying tx = some (.slice e')) (b o c : Nat) (hc : ∀ x, x < es.length * sz → World.cellOf w b (o + x) = some (f x)) :
    ∃ news, Src P sz tx (.slice (some ⟨b, o, none⟩) es.length c) es.length news w ∧ Flat (CRep β Z w) sz es (fun x => (news[x]?).getD undef) := by
  refine ⟨cellsList (es.length * sz) f, Src.ofSlice w hk _ _ c _ (cellsList_len _ _) (fun j u hu => ?_) (fun u hu => ?_), h.imp (fun x hx => cellsList_get _ _ _ hx) fun _ _ h => h⟩
  · obtain ⟨hj, rfl⟩ := cellsList_at hu
    rw [add_at]
    exact hc j hj
  · obtain ⟨j, hj, rfl⟩ := List.getElem_of_mem hu
    have : j < es.length * sz := by simpa [cellsList_len] using hj
    simpa [cellsList] using h.one j this

theorem src_empty {sz : Nat} {tx e' : TypeId} (hk : P.underlying tx = some (.slice e')) (x : Option Addr) (c : Nat) : Src P sz tx (.slice x 0 c) 0 [] w := by
  cases x with
  | none => exact Src.ofNil w hk c
  | some ad => exact Src.ofSlice w hk ad 0 c [] (by simp) (fun j u h => by simp at h) (fun u h => by cases h)

theorem src_sound (r : Objs β Z s w) {tx e' : TypeId} (hk : P.underlying tx = some (.slice e')) {sz : Nat} {y : AV} {u : Value} {q : List (List AV) × List Nat} (hy : CRep β Z w y u) (hq : srcV s.ob sz y = some q) :
    ∃ news, Src P sz tx u q.1.length news w ∧ Flat (CRep β Z w) sz q.1 (fun x => (news[x]?).getD undef) := by
  cases y <;> simp only [srcV] at hq <;> try (cases hq; done)
  case nils =>
    injection hq with hq
    subst hq
    cases hy with
    | fro hy => cases hy; exact ⟨[], src_empty hk none 0, Flat.nil _ _ _⟩
  case fsl z es =>
    split at hq
    · rename_i hz
      subst hz
      injection hq with hq
      subst hq
      cases hy with
      | fro hy =>
        cases hy with
        | fempty _ x c => exact ⟨[], src_empty hk x c, Flat.nil _ _ _⟩
        | fsl _ _ b o cap f hc hs hm hr =>
          have hf : ∀ x, x < es.length * z → ∃ cc, cellAt es (x / z) (x % z) = some cc ∧ x / z * z + x % z = x := fun x hx => by
            have h0 : Flat (fun _ _ => True) z es (fun _ => .bool true) := ⟨hs, fun _ _ _ _ => trivial, fun _ _ => rfl⟩
            exact h0.at_ hx
          have hfl : Flat (CRep β Z w) z es (fun x => f (x / z) (x % z)) := by
            refine ⟨hs, fun i j c hcc => ?_, fun x hx => ?_⟩
            · obtain ⟨e, h1, h2, h3, h4⟩ := cellAt_lt hcc
              rw [hs i e h1] at h4
              have e1 : (i * z + j) / z = i := by
                rw [Nat.mul_comm, Nat.mul_add_div (by omega), Nat.div_eq_of_lt h4, Nat.add_zero]
              have e2 : (i * z + j) % z = j := by rw [Nat.mul_comm, Nat.mul_add_mod, Nat.mod_eq_of_lt h4]
              rw [e1, e2]
              exact .fro (hr i j c hcc)
            · obtain ⟨cc, h1, h2⟩ := hf x hx
              exact (hm _ _ cc h1).2.2
          refine hfl.src hk b o cap fun x hx => ?_
          obtain ⟨cc, h1, h2⟩ := hf x hx
          have := (hm _ _ cc h1).2.1
          rwa [h2] at this
    · cases hq
  case sl k z i len =>
    have fin : ∀ (nd : Node) (z' : Nat) (es : List (List AV)), s.ob k = some nd → (nd = .row z' es ∨ nd = .arow z' es) → z = sz → z' = sz → i + len ≤ es.length → q = ((es.drop i).take len, [k]) →
        ∃ news, Src P sz tx u q.1.length news w ∧ Flat (CRep β Z w) sz q.1 (fun x => (news[x]?).getD undef) := by
      intro nd z' es hob hnd h1 h2 hle he
      subst h1 h2 he
      have hl : ((es.drop i).take len).length = len := by simp; omega
      have empty : len = 0 → ∀ (x : Option Addr) (c : Nat), ∃ news, Src P z' tx (.slice x 0 c) ((es.drop i).take len).length news w ∧ Flat (CRep β Z w) z' ((es.drop i).take len) (fun x => (news[x]?).getD undef) := fun h0 x c => by
        subst h0
        refine ⟨[], ?_, ?_⟩
        · simpa using src_empty hk x c
        · simpa using Flat.nil _ _ _
      cases hy with
      | fro hy => cases hy
      | slE _ _ _ x => exact empty rfl x 0
      | sl _ _ _ _ b o cap hb hc hsh =>
        rcases node_row hnd (r.node k nd hob) with ⟨_, h0⟩ | ⟨b', o', hb', hrow⟩
        · rw [hb] at h0; cases h0
        · rw [hb] at hb'
          injection hb' with hb'
          injection hb' with e1 e2
          subst e1 e2
          obtain ⟨arr, ty, g1, g2, g3, g4, g5⟩ := hrow.flat
          have hsub := g3.sub i len hle
          have h3 : (i + len) * z' ≤ es.length * z' := Nat.mul_le_mul_right _ hle
          rw [Nat.add_mul] at h3
          have := hsub.src hk b (o + i * z') cap fun x hx => by
            rw [hl] at hx
            have := cellOf_row g1 (x := o + i * z' + x) (by omega)
            simpa [Nat.add_assoc] using this
          rw [hl] at this ⊢
          exact this
    split at hq
    · rename_i z' es hob
      split at hq
      · rename_i hz
        injection hq with hq
        exact fin _ z' es hob (.inl rfl) hz.1 hz.2.1 hz.2.2 hq.symm
      · cases hq
    · rename_i z' es hob
      split at hq
      · rename_i hz
        injection hq with hq
        exact fin _ z' es hob (.inr rfl) hz.1 hz.2.1 hz.2.2 hq.symm
      · cases hq
    · cases hq

theorem drew_pushed (w : World) (o : Obj) : Pushed w (w.drew.alloc o) o := ⟨rfl, rfl, rfl, rfl⟩

/-- The element's type: its size, its bytes, that it has a zero value. -/
structure ElemOk (P : Program) (e : TypeId) (sz bytes : Nat) : Prop where
  info : ∃ i z, P.info? e = some i ∧ i.size = sz ∧ i.bytes = bytes ∧ i.zero = some z ∧ z.cells.size = sz ∧ (∃ zs, z.cells.toList.mapM (fun v => if v.oneCell' then some (cVal v) else none) = some zs)
  pos : 0 < bytes

theorem zeroCells_one {z : Value} {zs : List AV} (hz : z.cells.toList.mapM (fun v => if v.oneCell' then some (cVal v) else none) = some zs) (n : Nat) : ∀ v ∈ (Builtin.zeroCells z.cells n).toList, v.oneCell' = true := by
  intro v hv
  have hc := zeros_rep (β := fun _ => none) (Z := fun _ _ => False) (w := default) hz
  simp only [Builtin.zeroCells, Array.toList_map, List.mem_map] at hv
  obtain ⟨i, hi, rfl⟩ := hv
  have h0 : i < n * z.cells.size := by simpa using hi
  have hp : 0 < z.cells.size := by
    rcases Nat.eq_zero_or_pos z.cells.size with h | h
    · rw [h] at h0; simp at h0
    · exact h
  have hm : i % z.cells.size < z.cells.size := Nat.mod_lt _ hp
  have := hc.one (i % z.cells.size) hm
  rw [getElem!_pos z.cells _ hm]
  simpa [Array.getD_eq_getD_getElem?, hm] using this

theorem append_getD_left (l m : List Value) (r : Array Value) (x : Nat) (h : x < l.length + m.length) : (((l ++ m).toArray ++ r).getD x undef) = ((l ++ m)[x]?).getD undef := by
  simp only [Array.getD_eq_getD_getElem?]
  rw [Array.getElem?_append_left (by simpa using h)]
  simp

/-- Where there is no room: a new row. 's0': the state without the old object. -/
theorem app_grow {s0 : St} (r : Rel N β Z s0 a w) {m : Nat} (hm : m ∉ s0.nm) {d : Option Nat} (hd : ∀ x, d = some x → x < N) {t tx ty e : TypeId} {sz bytes : Nat} (ht : P.underlying t = some (.slice e)) (hek : ElemOk P e sz bytes)
    (base : Option Addr) (sLen sCap : Nat) (old : List (List AV)) (hol : old.length = sLen) (olds : List Value) (hold : (Builtin.firstCells sz sLen (.slice base sLen sCap)).run P w.drew = .ok olds.toArray w.drew) (hlo : olds.length = sLen * sz) (hfo : Flat (CRep β Z w) sz old (fun x => (olds[x]?).getD undef))
    (x : Value) (ys : List (List AV)) (news : List Value) (hs : Src P sz tx x ys.length news w) (hfn : Flat (CRep β Z w) sz ys (fun x => (news[x]?).getD undef)) (hg : sCap < sLen + ys.length) (hb : (sLen + ys.length) * bytes ≤ 140737488355328) :
    ∃ u' w' β', (Builtin.append_ #[t, tx] ty #[.slice base sLen sCap, x]).run P w = .ok u' w' ∧ Rel N β' Z (s0.new d (.sl m sz 0 (sLen + ys.length)) m (nodeOf sz (old ++ ys))) (a.put d u') w' ∧ SExt β Z s0 w β' Z (s0.new d (.sl m sz 0 (sLen + ys.length)) m (nodeOf sz (old ++ ys))) w' := by
  obtain ⟨⟨i, z, hi, hsz, hby, hz, hzsz, zs, hzs⟩, hpos⟩ := hek
  have hlen : sLen + ys.length ≤ 140737488355328 := Nat.le_trans (Nat.le_mul_of_pos_right _ hpos) hb
  rw [← hsz] at hs hold
  have hrun := run_append_grow_src (P := P) w t tx ty e i z ht hi hz base sLen sCap olds hold x ys.length news hs hg (by omega) (growslice_fits hg (by rw [hby]; exact hb))
  have hcap := grownCap_ge w (sLen + ys.length) sCap e
  have hnl := hs.newsLen
  rw [hsz] at hnl
  have hzl : (Builtin.zeroCells z.cells (grownCap w (sLen + ys.length) sCap e - (sLen + ys.length))).size = (grownCap w (sLen + ys.length) sCap e - (sLen + ys.length)) * z.cells.size := by simp [Builtin.zeroCells]
  have hasz : ∀ q, ((olds ++ news).toArray ++ Builtin.zeroCells z.cells q).size = (sLen + ys.length) * sz + q * z.cells.size := fun q => by
    simp only [Array.size_append, List.size_toArray, List.length_append, hlo, hnl, Builtin.zeroCells, Array.size_map, Array.size_range]
    rw [Nat.add_mul]
  refine ⟨_, _, _, hrun, r.newRow hm hd _ (drew_pushed w _) (sz := sz) (es := old ++ ys) ?_ ?_ ?_ fun β' hβ hsh => ?_⟩
  · refine (hfo.append hfn).imp (fun q hq => ?_) fun _ _ h => h
    rw [List.length_append, Nat.add_mul, hol] at hq
    rw [append_getD_left _ _ _ _ (by rw [hlo, hnl]; exact hq)]
    by_cases l : q < old.length * sz
    · rw [if_pos l, List.getElem?_append_left (by rw [hlo, ← hol]; exact l)]
    · rw [if_neg l, List.getElem?_append_right (by rw [hlo, ← hol]; omega), hlo, hol]
  · rw [hasz, List.length_append, hol]; omega
  · intro q hq
    rw [hasz] at hq
    by_cases l : q < (sLen + ys.length) * sz
    · rw [append_getD_left _ _ _ _ (by rw [hlo, hnl, ← Nat.add_mul]; exact l)]
      by_cases l2 : q < old.length * sz
      · rw [List.getElem?_append_left (by rw [hlo, ← hol]; exact l2)]
        exact hfo.one q l2
      · rw [List.getElem?_append_right (by rw [hlo, ← hol]; omega), hlo]
        refine hfn.one _ ?_
        rw [Nat.add_mul] at l
        rw [hol] at l2
        omega
    · have hz1 := zeroCells_one hzs (grownCap w (sLen + ys.length) sCap e - (sLen + ys.length))
      have hq' : q - (sLen + ys.length) * sz < (Builtin.zeroCells z.cells (grownCap w (sLen + ys.length) sCap e - (sLen + ys.length))).size := by rw [hzl]; omega
      simp only [Array.getD_eq_getD_getElem?]
      rw [Array.getElem?_append_right (by simp [hlo, hnl, ← Nat.add_mul]; omega)]
      simp only [List.size_toArray, List.length_append, hlo, hnl, ← Nat.add_mul]
      rw [Array.getElem?_eq_getElem hq', Option.getD_some]
      exact hz1 _ (Array.getElem_mem_toList hq')
  · obtain ⟨ty', k, g1, g2, g3⟩ := hsh
    have hfit : 0 + 0 * sz + grownCap w (sLen + ys.length) sCap e * sz ≤ k := by
      rw [g3, hasz, hzsz, ← Nat.add_mul]
      rw [show sLen + ys.length + (grownCap w (sLen + ys.length) sCap e - (sLen + ys.length)) = grownCap w (sLen + ys.length) sCap e by omega]
      omega
    have := CRep.sl (Z := Z) (w := w.drew.alloc (.cells ((olds ++ news).toArray ++ Builtin.zeroCells z.cells (grownCap w (sLen + ys.length) sCap e - (sLen + ys.length))) e)) m sz 0 (sLen + ys.length) _ 0 (grownCap w (sLen + ys.length) sCap e) hβ hcap ⟨ty', k, g1, hfit⟩
    simpa using this

/-- Where there is room: the cells are laid behind the old ones; the object takes a new name. -/
theorem app_room (r : Rel N β Z s a w) {k m : Nat} (hm : m ∉ s.nm) {d : Option Nat} (hd : ∀ x, d = some x → x < N) {t tx ty e : TypeId} {sz bytes : Nat} (ht : P.underlying t = some (.slice e)) (hek : ElemOk P e sz bytes)
    {nd : Node} {es : List (List AV)} (hob : s.ob k = some nd) {b o : Nat} (hbk : β k = some (b, o)) (hrow : RowRep (CRep β Z w) Z w sz es b o) {i len cap : Nat} (hi : i + len ≤ es.length) (hsh : ∃ t n, w.shape? b = some (t, n) ∧ o + i * sz + cap * sz ≤ n)
    (x : Value) (ys : List (List AV)) (news : List Value) (hs : Src P sz tx x ys.length news w) (hfn : Flat (CRep β Z w) sz ys (fun x => (news[x]?).getD undef)) (hg : len + ys.length ≤ cap) :
    ∃ u' w' β', (Builtin.append_ #[t, tx] ty #[.slice (some ⟨b, o + i * sz, none⟩) len cap, x]).run P w = .ok u' w' ∧ Rel N β' Z ((s.kill k).new d (.sl m sz 0 (len + ys.length)) m (nodeOf sz ((es.drop i).take len ++ ys))) (a.put d u') w' ∧ SExt β Z s w β' Z ((s.kill k).new d (.sl m sz 0 (len + ys.length)) m (nodeOf sz ((es.drop i).take len ++ ys))) w' := by
  obtain ⟨⟨inf, z, hinf, hsz, hby, hz, hzsz, zs, hzs⟩, hpos⟩ := hek
  obtain ⟨arr, ty', g1, g2, g3, g4, g5⟩ := hrow.flat
  obtain ⟨ty2, n2, s1, s2⟩ := hsh
  have hn2 : n2 = arr.size := by
    unfold World.shape? at s1
    rw [g1] at s1
    simp at s1
    exact s1.2.symm
  subst hn2
  have hnl := hs.newsLen
  have hcap : (len + ys.length) * sz ≤ cap * sz := Nat.mul_le_mul_right _ hg
  rw [Nat.add_mul] at hcap
  have hfit : o + i * sz + len * sz + news.length ≤ arr.size := by omega
  have hst := run_storeCells_at P b (o + i * sz + len * sz) ty' news 0 arr w g1 (by simpa using hfit) hs.one
  simp only [Nat.add_zero] at hst
  have hsp := splice_getD arr news (o + i * sz + len * sz)
  have hss := splice_size arr news _ hfit
  generalize hA : (arr.toList.take (o + i * sz + len * sz) ++ news ++ arr.toList.drop (o + i * sz + len * sz + news.length)).toArray = arr' at hst hsp hss
  have htn := setRow_turned (o := o) g1 hss (fun q hq => by rw [hsp q hfit, if_pos (by omega)])
  have hsub := g3.sub i len hi
  have hl : ((es.drop i).take len).length = len := by simp; omega
  have hil : (i + len) * sz ≤ es.length * sz := Nat.mul_le_mul_right _ hi
  rw [Nat.add_mul] at hil
  have kp := htn.keeps g4
  have hle := Places.set_le (p := (b, o + i * sz)) (r.unnamed hm)
  have hrun : (Builtin.append_ #[t, tx] ty #[.slice (some ⟨b, o + i * sz, none⟩) len cap, x]).run P w = .ok (.slice (some ⟨b, o + i * sz, none⟩) (len + ys.length) cap) (w.setRow b arr') := by
    subst hsz
    rcases hs.kind with ⟨e', hk⟩ | hk <;> simp [Builtin.append_, run_underlying ht, run_underlying hk, sizeOf, typeInfo, hinf, hs.len, hg, hs.cells, add_at, hst]
  refine ⟨_, _, _, hrun, r.turn hob hbk htn g4 hm (p := o + i * sz) (nodeOf_rep Places.set_new (RowRep.of htn.now ?_ ?_ (fun q hq => g4 q (by omega)) ?_)) ?_ hd⟩
  · rw [List.length_append, hl, Nat.add_mul]; omega
  · refine (hsub.append hfn).imp (fun q hq => ?_) fun c u h => h.keeps kp hle
    rw [List.length_append, Nat.add_mul, hl] at hq
    rw [hsp _ hfit, hl]
    by_cases l : q < len * sz
    · rw [if_pos (by omega), if_pos l, Nat.add_assoc]
    · rw [if_neg (by omega), if_pos (by omega), if_neg l]
      congr 2
      omega
  · intro q hq
    rw [hsp _ hfit]
    by_cases l : q < o + i * sz + len * sz
    · rw [if_pos l]; exact g5 q (by omega)
    · rw [if_neg l]
      by_cases l2 : q < o + i * sz + len * sz + news.length
      · rw [if_pos l2]
        have := hfn.one (q - (o + i * sz + len * sz)) (by omega)
        exact this
      · rw [if_neg l2]; exact g5 q (by omega)
  · have := CRep.sl (β := β.set m (b, o + i * sz)) (Z := Z) (w := w.setRow b arr') m sz 0 (len + ys.length) b (o + i * sz) cap Places.set_new hg ⟨ty2, arr.size, kp.shape _ _ s1, by omega⟩
    simpa using this

/-- A nil or empty slice without room takes nothing on: the object is there, with nothing in it. -/
theorem app_none {s0 : St} (r : Rel N β Z s0 a w) {m : Nat} (hm : m ∉ s0.nm) {d : Option Nat} (hd : ∀ x, d = some x → x < N) {t tx ty e : TypeId} {sz bytes : Nat} (ht : P.underlying t = some (.slice e)) (hek : ElemOk P e sz bytes) (base : Option Addr)
    (x : Value) (news : List Value) (hs : Src P sz tx x 0 news w) :
    ∃ u', (Builtin.append_ #[t, tx] ty #[.slice base 0 0, x]).run P w = .ok u' w ∧ Rel N β Z (s0.new d (.sl m sz 0 0) m (nodeOf sz [])) (a.put d u') w ∧ SExt β Z s0 w β Z (s0.new d (.sl m sz 0 0) m (nodeOf sz [])) w := by
  obtain ⟨⟨inf, z, hinf, hsz, hby, hz, hzsz, zs, hzs⟩, hpos⟩ := hek
  have hnl := hs.newsLen
  have hn0 : news = [] := List.eq_nil_of_length_eq_zero (by simpa using hnl)
  subst hn0
  subst hsz
  have hob : ∀ k nd, (s0.new d (.sl m inf.size 0 0) m (nodeOf inf.size [])).ob k = some nd → k = m ∧ nd = .row inf.size [] ∨ k ≠ m ∧ s0.ob k = some nd := fun k nd hk => by
    rw [St.new_ob] at hk
    by_cases e : k = m
    · subst e
      simp [nodeOf] at hk
      exact .inl ⟨rfl, hk.symm⟩
    · simp [e] at hk
      exact .inr ⟨e, hk⟩
  have h0 := r.unnamed hm
  refine ⟨.slice base 0 0, ?_, ⟨⟨fun k nd hk => ?_, fun k k' nd nd' b o o' h1 h2 h3 h4 => ?_, r.froz, r.dom, fun k p hp => by simp [St.new, r.names k p hp]⟩, ?_, by rw [put_size, r.size], by rw [put_defers, r.defers]⟩,
    ⟨rfl, rfl, rfl, Nat.le_refl _, Keeps.refl _ _, fun _ _ _ => rfl, fun _ _ _ h => .inl h, fun b _ ⟨k, nd, o, h1, h2⟩ => ?_, fun k _ hk => ⟨rfl, List.mem_cons_of_mem _ hk⟩⟩⟩
  · rcases hs.kind with ⟨e', hk⟩ | hk <;> cases base <;> simp [Builtin.append_, run_underlying ht, run_underlying hk, sizeOf, typeInfo, hinf, hs.len, hs.cells, storeCells]
  · rcases hob k nd hk with ⟨rfl, rfl⟩ | ⟨_, hk⟩
    · exact .inl ⟨rfl, h0⟩
    · exact r.node k nd hk
  · rcases hob k nd h1 with ⟨rfl, _⟩ | ⟨_, h1⟩
    · rw [h0] at h3; cases h3
    · rcases hob k' nd' h2 with ⟨rfl, _⟩ | ⟨_, h2⟩
      · rw [h0] at h4; cases h4
      · exact r.inj _ _ _ _ _ _ _ h1 h2 h3 h4
  · intro t' v' ht'
    exact env_put (s := s0) r.size r.env (CRep.slE m inf.size 0 base) hd t' v' ht'
  · rcases hob k nd h1 with ⟨rfl, _⟩ | ⟨_, h1⟩
    · rw [h0] at h2; cases h2
    · exact ⟨k, nd, o, h1, h2⟩

theorem app_eq_new (s : St) (d : Option Nat) (v : AV) (F : List Nat) (m : Nat) (nd : Node) : s.app d ⟨v, F, [(m, some nd)], [m]⟩ = s.new d v m nd := rfl
theorem app_eq_kill (s : St) (d : Option Nat) (v : AV) (F : List Nat) (m k : Nat) (nd : Node) : s.app d ⟨v, F, [(m, some nd), (k, none)], [m]⟩ = (s.kill k).new d v m nd := by cases d <;> rfl

theorem appV_sound (r : Rel N β Z s a w) {m : Nat} (hm : m ∉ s.nm) {d : Option Nat} (hd : ∀ x, d = some x → x < N) {t tx ty e e' : TypeId} {sz bytes : Nat} (ht : P.underlying t = some (.slice e)) (hk : P.underlying tx = some (.slice e')) (hek : ElemOk P e sz bytes)
    {x y : AV} {u v : Value} {ev : Ev} (hx : CRep β Z w x u) (hy : CRep β Z w y v) (he : appV s.ob m sz bytes x y = some ev) :
    ∃ u' w' β', (Builtin.append_ #[t, tx] ty #[u, v]).run P w = .ok u' w' ∧ Rel N β' Z (s.app d ev) (a.put d u') w' ∧ SExt β Z s w β' Z (s.app d ev) w' := by
  unfold appV at he
  obtain ⟨q, hq, he⟩ := Option.bind_eq_some_iff.1 he
  obtain ⟨news, hs, hf⟩ := src_sound r.toObjs hk hy hq
  cases x <;> simp only at he <;> try (cases he; done)
  case nils =>
    split at he
    · rename_i hb
      injection he with he
      subst he
      rw [app_eq_new]
      cases hx with
      | fro hx =>
        cases hx
        rcases Nat.eq_zero_or_pos q.1.length with h0 | h0
        · have hn : q.1 = [] := List.eq_nil_of_length_eq_zero h0
          rw [h0] at hs ⊢
          rw [hn]
          obtain ⟨u', h1, h2, h3⟩ := app_none (ty := ty) r hm hd ht hek none v news hs
          exact ⟨u', w, β, h1, h2, h3⟩
        · have := app_grow (ty := ty) r hm hd ht hek none 0 0 [] rfl [] (run_firstCells_none _ _ _ _ _) (by simp) (Flat.nil _ _ _) v q.1 news hs hf (by omega) (by simpa using hb)
          simpa using this
    · cases he
  case sl k z i len _ =>
    have fin : ∀ (nd : Node) (z' : Nat) (es : List (List AV)), s.ob k = some nd → (nd = .row z' es ∨ nd = .arow z' es) → z = sz → z' = sz → i + len ≤ es.length → (len + q.1.length) * bytes ≤ 140737488355328 →
        ∃ u' w' β', (Builtin.append_ #[t, tx] ty #[u, v]).run P w = .ok u' w' ∧ Rel N β' Z ((s.kill k).new d (.sl m sz 0 (len + q.1.length)) m (nodeOf sz ((es.drop i).take len ++ q.1))) (a.put d u') w' ∧ SExt β Z s w β' Z ((s.kill k).new d (.sl m sz 0 (len + q.1.length)) m (nodeOf sz ((es.drop i).take len ++ q.1))) w' := by
      intro nd z' es hob hnd h1 h2 hle hb
      subst h1 h2
      obtain ⟨rk, ek⟩ := r.kill k
      have hmk : m ∉ (s.kill k).nm := hm
      have lift : ∀ {β' : Places} {w' : World} {s' : St}, SExt β Z (s.kill k) w β' Z s' w' → SExt β Z s w β' Z s' w' := fun h => ek.trans h
      have empty : len = 0 → ∀ base, u = .slice base 0 0 → ∃ u' w' β', (Builtin.append_ #[t, tx] ty #[u, v]).run P w = .ok u' w' ∧ Rel N β' Z ((s.kill k).new d (.sl m z' 0 (len + q.1.length)) m (nodeOf z' ((es.drop i).take len ++ q.1))) (a.put d u') w' ∧ SExt β Z s w β' Z ((s.kill k).new d (.sl m z' 0 (len + q.1.length)) m (nodeOf z' ((es.drop i).take len ++ q.1))) w' := by
        intro h0 base hu
        subst h0 hu
        simp only [Nat.zero_add, List.take_zero, List.nil_append] at hb ⊢
        rcases Nat.eq_zero_or_pos q.1.length with h0 | h0
        · have hn : q.1 = [] := List.eq_nil_of_length_eq_zero h0
          rw [h0] at hs ⊢
          rw [hn]
          obtain ⟨u', h1, h2, h3⟩ := app_none (ty := ty) rk hmk hd ht hek base v news hs
          exact ⟨u', w, β, h1, h2, lift h3⟩
        · have hfc : (Builtin.firstCells z' 0 (.slice base 0 0)).run P w.drew = .ok ([] : List Value).toArray w.drew := by
            cases base with
            | none => exact run_firstCells_none _ _ _ _ _
            | some ad => exact run_firstCells_some _ z' 0 ad 0 0 [] (by simp) (fun j v h => by simp at h)
          obtain ⟨u', w', β', h1, h2, h3⟩ := app_grow (ty := ty) rk hmk hd ht hek base 0 0 [] rfl [] hfc (by simp) (Flat.nil _ _ _) v q.1 news hs hf (by omega) (by simpa using hb)
          simp only [Nat.zero_add, List.nil_append] at h2 h3
          exact ⟨u', w', β', h1, h2, lift h3⟩
      cases hx with
      | fro hx => cases hx
      | slE _ _ _ base => exact empty rfl base rfl
      | sl _ _ _ _ b o cap hbk hc hsh =>
        rcases node_row hnd (r.node k nd hob) with ⟨_, h0⟩ | ⟨b', o', hb', hrow⟩
        · rw [hbk] at h0; cases h0
        · rw [hbk] at hb'
          injection hb' with hb'
          injection hb' with e1 e2
          subst e1 e2
          by_cases hg : len + q.1.length ≤ cap
          · exact app_room r hm hd ht hek hob hbk hrow hle hsh v q.1 news hs hf hg
          · obtain ⟨arr, ty', g1, g2, g3, g4, g5⟩ := hrow.flat
            have hsub := g3.sub i len hle
            have hl : ((es.drop i).take len).length = len := by simp; omega
            have hil : (i + len) * z' ≤ es.length * z' := Nat.mul_le_mul_right _ hle
            rw [Nat.add_mul] at hil
            obtain ⟨u', w', β', h1, h2, h3⟩ := app_grow (ty := ty) rk hmk hd ht hek (some ⟨b, o + i * z', none⟩) len cap ((es.drop i).take len) hl (cellsList (len * z') fun q => arr.getD (o + (i * z' + q)) undef)
              (run_firstCells_some _ z' len _ len cap _ (cellsList_len _ _) (fun j v hj => by
                obtain ⟨hj, rfl⟩ := cellsList_at hj
                rw [add_at]
                have := cellOf_row g1 (x := o + (i * z' + j)) (by omega)
                rw [Nat.add_assoc]
                exact this))
              (cellsList_len _ _) (hsub.imp (fun q hq => cellsList_get _ _ _ (by rw [hl] at hq; exact hq)) fun _ _ h => h) v q.1 news hs hf (by omega) hb
            exact ⟨u', w', β', h1, h2, lift h3⟩
    split at he
    · rename_i z' es hob
      split at he
      · rename_i hz
        injection he with he
        subst he
        rw [app_eq_kill]
        exact fin _ z' es hob (.inl rfl) hz.1 hz.2.1 hz.2.2.1 hz.2.2.2
      · cases he
    · rename_i z' es hob
      split at he
      · rename_i hz
        injection he with he
        subst he
        rw [app_eq_kill]
        exact fin _ z' es hob (.inr rfl) hz.1 hz.2.1 hz.2.2.1 hz.2.2.2
      · cases he
    · cases he

end
end Go.Proofs.YtbmlhmgldipnhabGreatE
