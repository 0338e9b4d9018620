/-
  The engine, part 16: contracts of functions, and what a call gives.
-/
import Derived.Test.YtbmlhmgldipnhabGreatE15
set_option linter.unusedVariables false
set_option linter.unusedSimpArgs false
namespace Go.Proofs.YtbmlhmgldipnhabGreatE
open Go

/-! ### results that bring new objects -/
def bind0 (n : Nat) : AV → AV × List (Nat × Node)
  | .own sz es => (.sl n sz 0 es.length, [(n, nodeOf sz es)])
  | v => (v, [])
def bindCells (n : Nat) : List AV → List AV × List (Nat × Node)
  | [] => ([], [])
  | c :: cs => ((bind0 n c).1 :: (bindCells (n + 1) cs).1, (bind0 n c).2 ++ (bindCells (n + 1) cs).2)
def bind1 (n : Nat) : AV → AV × List (Nat × Node)
  | .agg cs => (.agg (bindCells n cs).1, (bindCells n cs).2)
  | .optr cs => (.ptr n cs.length 0 0, (n, nodeOf cs.length [(bindCells (n + 1) cs).1]) :: (bindCells (n + 1) cs).2)
  | v => bind0 n v
def bindTup (n : Nat) : List AV → List AV × List (Nat × Node)
  | [] => ([], [])
  | c :: cs => ((bind1 n c).1 :: (bindTup (n + 20) cs).1, (bind1 n c).2 ++ (bindTup (n + 20) cs).2)
def bindR (n : Nat) : AV → AV × List (Nat × Node)
  | .tup vs => (.tup (bindTup n vs).1, (bindTup n vs).2)
  | v => bind1 n v

def keys {α : Type} (l : List (Nat × α)) : List Nat := l.map (·.1)
/-- Objects alone, as a state. -/
def stOf (l : List (Nat × Node)) : St := { env := [], obs := l.map fun p => (p.1, some p.2), nm := keys l }

def Reps (β : Places) (Z : Froz) (w : World) (vs : List AV) (us : Array Value) : Prop := vs.length = us.size ∧ ∀ (j : Nat) (c : AV), vs[j]? = some c → CRep β Z w c (us.getD j undef)

/-- Objects alone, once a call has come back. -/
def stFin (pre new post : List (Nat × Node)) : St := { env := [], obs := (new ++ post).map fun p => (p.1, some p.2), nm := keys new ++ keys pre }

/-- A CONTRACT: called with these arguments, while these objects ('pre') stand, the function returns r, the objects being 'post' then; nothing else that was there has turned. -/
def LCall (P : Program) (f : FuncId) (args : List AV) (pre : List (Nat × Node)) (r : AV) (post : List (Nat × Node)) : Prop :=
  ∀ (β : Places) (Z : Froz) (w : World) (vals : Array Value), Objs β Z (stOf pre) w → Reps β Z w args vals →
    Calls P f vals w fun e w' => ∃ v, e = .returned v ∧ ∀ n, 100 ≤ n → (∀ k, k ∈ keys pre → k ∉ keys (bindR n r).2) →
      ∃ β' Z', CRep β' Z' w' (bindR n r).1 v ∧ Objs β' Z' (stFin pre (bindR n r).2 post) w' ∧ SExt β Z (stOf pre) w β' Z' (stFin pre (bindR n r).2 post) w' ∧ ∀ k, k ∈ keys pre → β' k = β k

/-- A contract without objects. -/
def PCall (P : Program) (f : FuncId) (args : List AV) (r : AV) : Prop := LCall P f args [] r []

theorem lookup_map_some {l : List (Nat × Node)} {k : Nat} : (l.map fun p => (p.1, some p.2)).lookup k = (l.lookup k).map some := by
  induction l with
  | nil => rfl
  | cons p l ih =>
    obtain ⟨q, v⟩ := p
    simp only [List.map_cons, List.lookup_cons]
    cases k == q <;> simp [ih]
theorem stOf_ob (l : List (Nat × Node)) (k : Nat) : (stOf l).ob k = l.lookup k := by
  unfold St.ob stOf
  rw [lookup_map_some]
  cases l.lookup k <;> rfl
theorem stFin_ob (pre new post : List (Nat × Node)) (k : Nat) : (stFin pre new post).ob k = (new ++ post).lookup k := by
  unfold St.ob stFin
  simp only [lookup_map_some]
  cases (new ++ post).lookup k <;> rfl
theorem mem_keys_of_lookup {α : Type} {l : List (Nat × α)} {k : Nat} {v : α} (h : l.lookup k = some v) : k ∈ keys l := by
  induction l with
  | nil => simp at h
  | cons p l ih =>
    obtain ⟨q, u⟩ := p
    simp only [List.lookup_cons] at h
    by_cases e : k = q
    · simp [keys, e]
    · have : (k == q) = false := by simpa using e
      rw [this] at h
      have := ih h
      simp [keys] at this ⊢
      exact .inr this
theorem lookup_append {α : Type} (l m : List (Nat × α)) (k : Nat) : (l ++ m).lookup k = (l.lookup k).or (m.lookup k) := by
  induction l with
  | nil => simp
  | cons p l ih =>
    obtain ⟨q, u⟩ := p
    simp only [List.cons_append, List.lookup_cons]
    cases k == q <;> simp [ih]
theorem lookup_none_of_not_mem {α : Type} {l : List (Nat × α)} {k : Nat} (h : k ∉ keys l) : l.lookup k = none := by
  cases e : l.lookup k with
  | none => rfl
  | some v => exact absurd (mem_keys_of_lookup e) h

/-! ### arguments that are looked at as frozen -/
mutual
/-- It reaches no frozen memory. -/
def AV.noF : AV → Bool
  | .fsl _ [] => true
  | .fsl _ _ | .fp _ | .fmp _ => false
  | .agg cs => noFs cs
  | .tup vs => noFs vs
  | .fn _ a b => noFs a && noFs b
  | .own _ es => noFss es
  | .optr cs => noFs cs
  | .omap _ => false
  | _ => true
def noFs : List AV → Bool
  | [] => true
  | c :: cs => c.noF && noFs cs
def noFss : List (List AV) → Bool
  | [] => true
  | c :: cs => noFs c && noFss cs
end
def Node.noF : Node → Bool
  | .row _ es | .arow _ es => noFss es
  | .map _ => false

mutual
/-- It names only objects of the list. -/
def AV.names (l : List Nat) : AV → Bool
  | .sl k _ _ _ => l.contains k
  | .ptr k _ _ _ => l.contains k
  | .mp k => l.contains k
  | .agg cs => namess l cs
  | .tup vs => namess l vs
  | .fn _ a b => namess l a && namess l b
  | .own .. | .optr .. | .omap .. => false
  | _ => true
def namess (l : List Nat) : List AV → Bool
  | [] => true
  | c :: cs => c.names l && namess l cs
end

theorem namess_get {l : List Nat} {cs : List AV} (h : namess l cs = true) {j : Nat} {c : AV} (hc : cs[j]? = some c) : c.names l = true := by
  induction cs generalizing j with
  | nil => simp at hc
  | cons d cs ih =>
    simp only [namess, Bool.and_eq_true] at h
    cases j with
    | zero => simp at hc; subst hc; exact h.1
    | succ j => exact ih h.2 (by simpa using hc)
theorem noFs_get {cs : List AV} (h : noFs cs = true) {j : Nat} {c : AV} (hc : cs[j]? = some c) : c.noF = true := by
  induction cs generalizing j with
  | nil => simp at hc
  | cons d cs ih =>
    simp only [noFs, Bool.and_eq_true] at h
    cases j with
    | zero => simp at hc; subst hc; exact h.1
    | succ j => exact ih h.2 (by simpa using hc)
theorem noFss_get {es : List (List AV)} (h : noFss es = true) {i : Nat} {e : List AV} (he : es[i]? = some e) : noFs e = true := by
  induction es generalizing i with
  | nil => simp at he
  | cons d cs ih =>
    simp only [noFss, Bool.and_eq_true] at h
    cases i with
    | zero => simp at he; subst he; exact h.1
    | succ i => exact ih h.2 (by simpa using he)

/-- Where no frozen memory is reached, it doesn't matter what is frozen. -/
theorem FRep.noF {Z Z' : Froz} {w : World} {v : AV} {u : Value} (h : FRep Z w v u) : v.noF = true → FRep Z' w v u := by
  induction h with
  | dead v => exact fun _ => .dead v
  | sc v h1 => exact fun _ => .sc v h1
  | nils => exact fun _ => .nils
  | fempty sz a cap => exact fun _ => .fempty sz a cap
  | fsl sz es b o cap u hc hs hm hr ih =>
    intro hn
    cases es with
    | nil => exact .fempty sz _ _
    | cons e es => simp [AV.noF] at hn
  | fp cs b o u hm hr ih => intro hn; simp [AV.noF] at hn
  | fmpN => exact fun _ => .fmpN
  | fmp => intro hn; simp [AV.noF] at hn
  | agg cs us hl h1 hr ih => exact fun hn => .agg cs us hl h1 fun j c hc => ih j c hc (noFs_get (by simpa [AV.noF] using hn) hc)
  | tup cs us hl hr ih => exact fun hn => .tup cs us hl fun j c hc => ih j c hc (noFs_get (by simpa [AV.noF] using hn) hc)
  | fn f fs cs us vs hl hl' hr hr' ih ih' =>
    intro hn
    simp only [AV.noF, Bool.and_eq_true] at hn
    exact .fn f fs cs us vs hl hl' (fun j c hc => ih j c hc (noFs_get hn.1 hc)) (fun j c hc => ih' j c hc (noFs_get hn.2 hc))
theorem CRep.noF {β : Places} {Z Z' : Froz} {w : World} {v : AV} {u : Value} (h : CRep β Z w v u) : v.noF = true → CRep β Z' w v u := by
  induction h with
  | fro h => exact fun hn => .fro (h.noF hn)
  | slE k sz i a => exact fun _ => .slE k sz i a
  | sl k sz i len b o cap hb hc hs => exact fun _ => .sl k sz i len b o cap hb hc hs
  | ptr k sz i off b o hb => exact fun _ => .ptr k sz i off b o hb
  | mp k b o hb => exact fun _ => .mp k b o hb
  | agg cs us hl h1 hr ih => exact fun hn => .agg cs us hl h1 fun j c hc => ih j c hc (noFs_get (by simpa [AV.noF] using hn) hc)
  | tup cs us hl hr ih => exact fun hn => .tup cs us hl fun j c hc => ih j c hc (noFs_get (by simpa [AV.noF] using hn) hc)
  | fn f fs cs us vs hl hl' hr hr' ih ih' =>
    intro hn
    simp only [AV.noF, Bool.and_eq_true] at hn
    exact .fn f fs cs us vs hl hl' (fun j c hc => ih j c hc (noFs_get hn.1 hc)) (fun j c hc => ih' j c hc (noFs_get hn.2 hc))

/-- Only the places of the objects that are named matter. -/
theorem CRep.named {β β' : Places} {Z : Froz} {w : World} {v : AV} {u : Value} (h : CRep β Z w v u) {l : List Nat} (hβ : ∀ k, k ∈ l → β' k = β k) : v.names l = true → CRep β' Z w v u := by
  induction h with
  | fro h => exact fun _ => .fro h
  | slE k sz i a => exact fun _ => .slE k sz i a
  | sl k sz i len b o cap hb hc hs => exact fun hn => .sl k sz i len b o cap (by rw [hβ k (by simpa [AV.names] using hn)]; exact hb) hc hs
  | ptr k sz i off b o hb => exact fun hn => .ptr k sz i off b o (by rw [hβ k (by simpa [AV.names] using hn)]; exact hb)
  | mp k b o hb => exact fun hn => .mp k b o (by rw [hβ k (by simpa [AV.names] using hn)]; exact hb)
  | agg cs us hl h1 hr ih => exact fun hn => .agg cs us hl h1 fun j c hc => ih j c hc (namess_get (by simpa [AV.names] using hn) hc)
  | tup cs us hl hr ih => exact fun hn => .tup cs us hl fun j c hc => ih j c hc (namess_get (by simpa [AV.names] using hn) hc)
  | fn f fs cs us vs hl hl' hr hr' ih ih' =>
    intro hn
    simp only [AV.names, Bool.and_eq_true] at hn
    exact .fn f fs cs us vs hl hl' (fun j c hc => ih j c hc (namess_get hn.1 hc)) (fun j c hc => ih' j c hc (namess_get hn.2 hc))

/-- A value looked at while the objects 'T' stand still: what it names of them, written out. -/
inductive Frz (s : St) (T : List Nat) : AV → AV → Prop where
  | keep (v : AV) : Frz s T v v
  | nil (sz : Nat) : Frz s T .nils (.fsl sz [])
  | sl (k sz i len : Nat) (es : List (List AV)) (hT : k ∈ T) (ho : s.ob k = some (.row sz es)) (hl : i + len ≤ es.length) : Frz s T (.sl k sz i len) (.fsl sz ((es.drop i).take len))
  | ptr (k sz i off : Nat) (es : List (List AV)) (e : List AV) (hT : k ∈ T) (ho : s.ob k = some (.row sz es)) (he : es[i]? = some e) : Frz s T (.ptr k sz i off) (.fp (e.drop off))
  | ptrA (k sz i off : Nat) (es : List (List AV)) (e e' : List AV) (hT : k ∈ T) (ho : s.ob k = some (.arow sz es)) (he : es[i]? = some e) (hl : (e.drop off).length = e'.length) (hf : frees e' = true)
      (hc : ∀ (j : Nat) (c c' : AV), (e.drop off)[j]? = some c → e'[j]? = some c' → Frz s T c c') : Frz s T (.ptr k sz i off) (.fp e')
  | agg (cs ds : List AV) (hl : cs.length = ds.length) (hc : ∀ (j : Nat) (c d : AV), cs[j]? = some c → ds[j]? = some d → Frz s T c d) : Frz s T (.agg cs) (.agg ds)
  | fn (f : FuncId) (as bs cs ds : List AV) (hl : as.length = bs.length) (hl' : cs.length = ds.length) (hc : ∀ (j : Nat) (c d : AV), as[j]? = some c → bs[j]? = some d → Frz s T c d)
      (hc' : ∀ (j : Nat) (c d : AV), cs[j]? = some c → ds[j]? = some d → Frz s T c d) : Frz s T (.fn f as cs) (.fn f bs ds)
  | slA (k sz i len : Nat) (es es' : List (List AV)) (hT : k ∈ T) (ho : s.ob k = some (.arow sz es)) (hl : i + len ≤ es.length) (hl' : es'.length = len) (hf : ∀ (p : Nat) (e : List AV), es'[p]? = some e → frees e = true)
      (hs : ∀ (p : Nat) (e : List AV), es'[p]? = some e → e.length = sz)
      (hc : ∀ (p j : Nat) (c c' : AV), cellAt es (i + p) j = some c → cellAt es' p j = some c' → Frz s T c c') : Frz s T (.sl k sz i len) (.fsl sz es')

/-- The cells of objects that stand still for a while. -/
def FrozT (β : Places) (Z : Froz) (s : St) (T : List Nat) : Froz := fun b x => Z b x ∨ ∃ k nd o, k ∈ T ∧ s.ob k = some nd ∧ β k = some (b, o)

theorem FrozT.keeps (β : Places) (Z : Froz) (s : St) (T : List Nat) (w : World) : Keeps Z w (FrozT β Z s T) w := ⟨fun _ _ h => .inl h, fun _ _ _ _ h => h, fun _ _ _ _ h => h, fun _ _ h => h⟩

theorem Frz.sound {β : Places} {Z : Froz} {s : St} {T : List Nat} {w : World} (r : Objs β Z s w) {v v' : AV} (h : Frz s T v v') : ∀ {u : Value}, CRep β Z w v u → CRep β (FrozT β Z s T) w v' u := by
  have kp := FrozT.keeps β Z s T w
  induction h with
  | keep v => exact fun hu => hu.keeps kp fun _ _ h => h
  | nil sz =>
    intro u hu
    cases hu with
    | fro hu => cases hu; exact .fro (.fempty sz _ _)
  | sl k sz i len es hT ho hl =>
    intro u hu
    have hlen : ((es.drop i).take len).length = len := by simp; omega
    cases hu with
    | fro hu => cases hu
    | slE _ _ _ ad =>
      have : (es.drop i).take 0 = [] := by simp
      rw [this]
      exact .fro (.fempty sz ad 0)
    | sl _ _ _ _ b o cap hb hc hs =>
      rcases r.node k _ ho with ⟨_, h0⟩ | ⟨b', o', hb', hrow⟩
      · rw [hb] at h0; cases h0
      · rw [hb] at hb'
        injection hb' with hb'
        injection hb' with e1 e2
        subst e1 e2
        obtain ⟨arr, t, g1, g2, g3, g4, g5⟩ := hrow.flat
        have hsub := g3.sub i len hl
        have h3 : (i + len) * sz ≤ es.length * sz := Nat.mul_le_mul_right _ hl
        rw [Nat.add_mul] at h3
        have := FRep.fsl (Z := FrozT β Z s T) (w := w) sz ((es.drop i).take len) b (o + i * sz) cap (fun p j => arr.getD (o + (i * sz + (p * sz + j))) undef) (by omega) hsub.size
          (fun p j c hcell => by
            obtain ⟨e, q1, q2, q3, q4⟩ := cellAt_lt hcell
            have hj : j < sz := by rw [← hsub.size p e q1]; exact q4
            have hx := mul_lt_row (sz := sz) q3 hj
            rw [hlen] at hx
            refine ⟨.inr ⟨k, _, o, hT, ho, hb⟩, ?_, g5 _ (by omega)⟩
            have := cellOf_row g1 (x := o + (i * sz + (p * sz + j))) (by omega)
            rwa [show o + i * sz + (p * sz + j) = o + (i * sz + (p * sz + j)) by omega])
          (fun p j c hcell => (hsub.rep p j c hcell).keeps kp)
        rw [hlen] at this
        exact .fro this
  | ptr k sz i off es e hT ho he =>
    intro u hu
    cases hu with
    | fro hu => cases hu
    | ptr _ _ _ _ b o hb =>
      rcases r.node k _ ho with ⟨h0, _⟩ | ⟨b', o', hb', hrow⟩
      · subst h0; simp at he
      · rw [hb] at hb'
        injection hb' with hb'
        injection hb' with e1 e2
        subst e1 e2
        obtain ⟨arr, t, g1, g2, g3, g4, g5⟩ := hrow.flat
        have hi : i < es.length := (List.getElem?_eq_some_iff.1 he).1
        have hsz := g3.size i e he
        have key : ∀ (j : Nat) (c : AV), (e.drop off)[j]? = some c → o + (i * sz + (off + j)) < arr.size ∧ FRep Z w c (arr.getD (o + (i * sz + (off + j))) undef) := fun j c hc => by
          rw [List.getElem?_drop] at hc
          have hj : off + j < e.length := (List.getElem?_eq_some_iff.1 hc).1
          have := mul_lt_row (sz := sz) hi (show off + j < sz by omega)
          exact ⟨by omega, g3.rep i (off + j) c (by simp [cellAt, he, hc])⟩
        refine .fro (.fp (e.drop off) b (o + i * sz + off) (fun j => arr.getD (o + (i * sz + (off + j))) undef) (fun j c hc => ⟨.inr ⟨k, _, o, hT, ho, hb⟩, ?_, g5 _ (key j c hc).1⟩) (fun j c hc => (key j c hc).2.keeps kp))
        have := cellOf_row g1 (key j c hc).1
        rwa [show o + i * sz + off + j = o + (i * sz + (off + j)) by omega]
  | ptrA k sz i off es e e' hT ho he hl hf hc ih =>
    intro u hu
    cases hu with
    | fro hu => cases hu
    | ptr _ _ _ _ b o hb =>
      obtain ⟨b', o', hb', hrow⟩ := r.node k _ ho
      rw [hb] at hb'
      injection hb' with hb'
      injection hb' with e1 e2
      subst e1 e2
      obtain ⟨arr, t, g1, g2, g3, g4, g5⟩ := RowRep.flat hrow
      have hi : i < es.length := (List.getElem?_eq_some_iff.1 he).1
      have hsz := g3.size i e he
      have key : ∀ (j : Nat) (c' : AV), e'[j]? = some c' → o + (i * sz + (off + j)) < arr.size ∧ FRep (FrozT β Z s T) w c' (arr.getD (o + (i * sz + (off + j))) undef) := fun j c' hc' => by
        have hj' : j < (e.drop off).length := by rw [hl]; exact (List.getElem?_eq_some_iff.1 hc').1
        have hj : off + j < e.length := by simp at hj'; omega
        have := mul_lt_row (sz := sz) hi (show off + j < sz by omega)
        have hce : e[off + j]? = some e[off + j] := List.getElem?_eq_getElem hj
        have h1 := g3.rep i (off + j) (e[off + j]) (by simp only [cellAt, he, Option.bind_some]; exact hce)
        exact ⟨by omega, (ih j _ c' (by rw [List.getElem?_drop]; exact hce) hc' h1).frozen (frees_get hf hc')⟩
      refine .fro (.fp e' b (o + i * sz + off) (fun j => arr.getD (o + (i * sz + (off + j))) undef) (fun j c hc => ⟨.inr ⟨k, _, o, hT, ho, hb⟩, ?_, g5 _ (key j c hc).1⟩) (fun j c hc => (key j c hc).2))
      have := cellOf_row g1 (key j c hc).1
      rwa [show o + i * sz + off + j = o + (i * sz + (off + j)) by omega]
  | agg cs ds hl hc ih =>
    intro u hu
    have fin : ∀ us : Array Value, cs.length = us.size → (∀ j, j < us.size → (us.getD j undef).oneCell' = true) → (∀ (j : Nat) (c : AV), cs[j]? = some c → CRep β Z w c (us.getD j undef)) → CRep β (FrozT β Z s T) w (.agg ds) (.agg us) := fun us h1 h2 h3 =>
      .agg ds us (by omega) h2 fun j d hd => by
        have hj : j < cs.length := by rw [hl]; exact (List.getElem?_eq_some_iff.1 hd).1
        exact ih j _ d (List.getElem?_eq_getElem hj) hd (h3 j _ (List.getElem?_eq_getElem hj))
    cases hu with
    | fro hu => cases hu with
      | agg _ us h1 h2 h3 => exact fin us h1 h2 fun j c hc => .fro (h3 j c hc)
    | agg _ us h1 h2 h3 => exact fin us h1 h2 h3
  | fn f as bs cs ds hl hl' hc hc' ih ih' =>
    intro u hu
    have fin : ∀ us vs : Array Value, as.length = us.size → cs.length = vs.size → (∀ (j : Nat) (c : AV), as[j]? = some c → CRep β Z w c (us.getD j undef)) → (∀ (j : Nat) (c : AV), cs[j]? = some c → CRep β Z w c (vs.getD j undef)) → CRep β (FrozT β Z s T) w (.fn f bs ds) (.func (.func f) us vs) := fun us vs h1 h2 h3 h4 =>
      .fn f bs ds us vs (by omega) (by omega) (fun j d hd => by
        have hj : j < as.length := by rw [hl]; exact (List.getElem?_eq_some_iff.1 hd).1
        exact ih j _ d (List.getElem?_eq_getElem hj) hd (h3 j _ (List.getElem?_eq_getElem hj))) fun j d hd => by
        have hj : j < cs.length := by rw [hl']; exact (List.getElem?_eq_some_iff.1 hd).1
        exact ih' j _ d (List.getElem?_eq_getElem hj) hd (h4 j _ (List.getElem?_eq_getElem hj))
    cases hu with
    | fro hu => cases hu with
      | fn _ _ _ us vs h1 h2 h3 h4 => exact fin us vs h1 h2 (fun j c hc => .fro (h3 j c hc)) fun j c hc => .fro (h4 j c hc)
    | fn _ _ _ us vs h1 h2 h3 h4 => exact fin us vs h1 h2 h3 h4
  | slA k sz i len es es' hT ho hl hl' hf hs hc ih =>
    intro u hu
    cases hu with
    | fro hu => cases hu
    | slE _ _ _ ad =>
      have : es' = [] := List.eq_nil_of_length_eq_zero hl'
      subst this
      exact .fro (.fempty sz ad 0)
    | sl _ _ _ _ b o cap hb hcap hsh =>
      obtain ⟨b', o', hb', hrow⟩ := r.node k _ ho
      rw [hb] at hb'
      injection hb' with hb'
      injection hb' with e1 e2
      subst e1 e2
      obtain ⟨arr, t, g1, g2, g3, g4, g5⟩ := RowRep.flat hrow
      have key : ∀ (p j : Nat) (c' : AV), cellAt es' p j = some c' → o + (i * sz + (p * sz + j)) < arr.size ∧ FRep (FrozT β Z s T) w c' (arr.getD (o + (i * sz + (p * sz + j))) undef) := fun p j c' hc' => by
        obtain ⟨e', q1, q2, q3, q4⟩ := cellAt_lt hc'
        have hj : j < sz := by rw [← hs p e' q1]; exact q4
        have hip : i + p < es.length := by omega
        have hsz := g3.size (i + p) _ (List.getElem?_eq_getElem hip)
        have hcell : cellAt es (i + p) j = some (es[i + p][j]'(by omega)) := by simp only [cellAt, List.getElem?_eq_getElem hip, Option.bind_some]; exact List.getElem?_eq_getElem (by omega)
        have h1 := g3.rep (i + p) j _ hcell
        have hx := mul_lt_row (sz := sz) hip hj
        rw [Nat.add_mul] at hx h1
        refine ⟨by omega, ?_⟩
        rw [show i * sz + p * sz + j = i * sz + (p * sz + j) by omega] at h1
        exact (ih p j _ c' hcell hc' h1).frozen (frees_get (hf p e' q1) q2)
      have := FRep.fsl (Z := FrozT β Z s T) (w := w) sz es' b (o + i * sz) cap (fun p j => arr.getD (o + (i * sz + (p * sz + j))) undef) (by omega) hs
        (fun p j c hcell => by
          refine ⟨.inr ⟨k, _, o, hT, ho, hb⟩, ?_, g5 _ (key p j c hcell).1⟩
          have := cellOf_row g1 (key p j c hcell).1
          rwa [show o + i * sz + (p * sz + j) = o + (i * sz + (p * sz + j)) by omega])
        (fun p j c hcell => (key p j c hcell).2)
      rw [hl'] at this
      exact .fro this

end Go.Proofs.YtbmlhmgldipnhabGreatE
