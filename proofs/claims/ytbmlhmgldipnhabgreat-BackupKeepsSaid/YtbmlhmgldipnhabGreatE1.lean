/-
  The engine, part 1: abstract values, how they stand for the model's values in a world, and that they go on standing for them as the world grows.
-/
import Derived.Calls
import Derived.WalkKit
import Derived.KernelRfl
set_option linter.unusedVariables false
set_option linter.unusedSimpArgs false
namespace Go.Proofs.YtbmlhmgldipnhabGreatE
open Go

/-- Abstract values. 'fsl', 'fp': memory that is never written again, written out. 'sl', 'ptr', 'mp': memory of a live object with a name. 'own', 'optr', 'omap': in results of calls alone: a new object. -/
inductive AV where
  | dead
  | sc (v : Value)
  | nils
  | fsl (sz : Nat) (es : List (List AV))
  | fp (cs : List AV)
  | fmp (es : List (AV × AV))
  | agg (cs : List AV)
  | tup (vs : List AV)
  | fn (f : FuncId) (first caps : List AV)
  | sl (k sz i len : Nat)
  | ptr (k sz i off : Nat)
  | mp (k : Nat)
  | own (sz : Nat) (es : List (List AV))
  | optr (cs : List AV)
  | omap (es : List (AV × AV))
  deriving Inhabited

/-- A live object: a row of elements of sz cells each ('row': its cells name no object; 'arow': they may), a map. -/
inductive Node where
  | row (sz : Nat) (es : List (List AV))
  | arow (sz : Nat) (es : List (List AV))
  | map (es : List (AV × AV))
  deriving Inhabited

/-- Cell j of element i. -/
def cellAt (es : List (List AV)) (i j : Nat) : Option AV := (es[i]?).bind (·[j]?)

abbrev Places := Nat → Option (Nat × Nat)
/-- The cells that are never written again. -/
abbrev Froz := Nat → Nat → Prop

def World.cellOf (w : World) (b o : Nat) : Option Value := w.cell? ⟨b, o, none⟩

/-- A value that names no object. -/
inductive FRep (Z : Froz) (w : World) : AV → Value → Prop where
  | dead (v : Value) : FRep Z w .dead v
  | sc (v : Value) (h1 : v.oneCell' = true) : FRep Z w (.sc v) v
  | nils : FRep Z w .nils (.slice none 0 0)
  | fempty (sz : Nat) (a : Option Addr) (cap : Nat) : FRep Z w (.fsl sz []) (.slice a 0 cap)
  | fsl (sz : Nat) (es : List (List AV)) (b o cap : Nat) (u : Nat → Nat → Value) (hc : es.length ≤ cap)
      (hs : ∀ (i : Nat) (e : List AV), es[i]? = some e → e.length = sz)
      (hm : ∀ (i j : Nat) (c : AV), cellAt es i j = some c → Z b (o + (i * sz + j)) ∧ World.cellOf w b (o + (i * sz + j)) = some (u i j) ∧ (u i j).oneCell' = true)
      (hr : ∀ (i j : Nat) (c : AV), cellAt es i j = some c → FRep Z w c (u i j)) : FRep Z w (.fsl sz es) (.slice (some ⟨b, o, none⟩) es.length cap)
  | fp (cs : List AV) (b o : Nat) (u : Nat → Value)
      (hm : ∀ (j : Nat) (c : AV), cs[j]? = some c → Z b (o + j) ∧ World.cellOf w b (o + j) = some (u j) ∧ (u j).oneCell' = true)
      (hr : ∀ (j : Nat) (c : AV), cs[j]? = some c → FRep Z w c (u j)) : FRep Z w (.fp cs) (.pointer (some ⟨b, o, none⟩))
  | fmpN : FRep Z w (.fmp []) (.map none)
  | fmp (es : List (AV × AV)) (b : Nat) (ents : Array MapEntry) (clock : Nat) (hz : Z b 0) (hh : w.heap[b]? = some (.map ents clock)) (hl : es.length = ents.size)
      (hk : ∀ (i : Nat) (p : AV × AV) (e : MapEntry), es[i]? = some p → ents[i]? = some e → FRep Z w p.1 e.key) (hv : ∀ (i : Nat) (p : AV × AV) (e : MapEntry), es[i]? = some p → ents[i]? = some e → FRep Z w p.2 e.val) : FRep Z w (.fmp es) (.map (some b))
  | agg (cs : List AV) (us : Array Value) (hl : cs.length = us.size) (h1 : ∀ j, j < us.size → (us.getD j undef).oneCell' = true) (hr : ∀ (j : Nat) (c : AV), cs[j]? = some c → FRep Z w c (us.getD j undef)) : FRep Z w (.agg cs) (.agg us)
  | tup (cs : List AV) (us : Array Value) (hl : cs.length = us.size) (hr : ∀ (j : Nat) (c : AV), cs[j]? = some c → FRep Z w c (us.getD j undef)) : FRep Z w (.tup cs) (.tuple us)
  | fn (f : FuncId) (fs cs : List AV) (us vs : Array Value) (hl : fs.length = us.size) (hl' : cs.length = vs.size)
      (hr : ∀ (j : Nat) (c : AV), fs[j]? = some c → FRep Z w c (us.getD j undef)) (hr' : ∀ (j : Nat) (c : AV), cs[j]? = some c → FRep Z w c (vs.getD j undef)) : FRep Z w (.fn f fs cs) (.func (.func f) us vs)

/-- A value that may name objects. -/
inductive CRep (β : Places) (Z : Froz) (w : World) : AV → Value → Prop where
  | fro {v : AV} {u : Value} (h : FRep Z w v u) : CRep β Z w v u
  | slE (k sz i : Nat) (a : Option Addr) : CRep β Z w (.sl k sz i 0) (.slice a 0 0)
  | sl (k sz i len b o cap : Nat) (hb : β k = some (b, o)) (hc : len ≤ cap) (hs : ∃ t n, w.shape? b = some (t, n) ∧ o + i * sz + cap * sz ≤ n) : CRep β Z w (.sl k sz i len) (.slice (some ⟨b, o + i * sz, none⟩) len cap)
  | ptr (k sz i off b o : Nat) (hb : β k = some (b, o)) : CRep β Z w (.ptr k sz i off) (.pointer (some ⟨b, o + i * sz + off, none⟩))
  | mp (k b o : Nat) (hb : β k = some (b, o)) : CRep β Z w (.mp k) (.map (some b))
  | agg (cs : List AV) (us : Array Value) (hl : cs.length = us.size) (h1 : ∀ j, j < us.size → (us.getD j undef).oneCell' = true) (hr : ∀ (j : Nat) (c : AV), cs[j]? = some c → CRep β Z w c (us.getD j undef)) : CRep β Z w (.agg cs) (.agg us)
  | tup (cs : List AV) (us : Array Value) (hl : cs.length = us.size) (hr : ∀ (j : Nat) (c : AV), cs[j]? = some c → CRep β Z w c (us.getD j undef)) : CRep β Z w (.tup cs) (.tuple us)
  | fn (f : FuncId) (fs cs : List AV) (us vs : Array Value) (hl : fs.length = us.size) (hl' : cs.length = vs.size)
      (hr : ∀ (j : Nat) (c : AV), fs[j]? = some c → CRep β Z w c (us.getD j undef)) (hr' : ∀ (j : Nat) (c : AV), cs[j]? = some c → CRep β Z w c (vs.getD j undef)) : CRep β Z w (.fn f fs cs) (.func (.func f) us vs)

/-- What a live object is in the world. -/
def RowRep (R : AV → Value → Prop) (Z : Froz) (w : World) (sz : Nat) (es : List (List AV)) (b o : Nat) : Prop :=
  ∃ arr t, w.heap[b]? = some (.cells arr t (0, 0)) ∧ o + es.length * sz ≤ arr.size ∧ (∀ (i : Nat) (e : List AV), es[i]? = some e → e.length = sz) ∧
    (∀ (i j : Nat) (c : AV), cellAt es i j = some c → R c (arr.getD (o + (i * sz + j)) undef)) ∧ (∀ x, o ≤ x → ¬ Z b x) ∧ ∀ x, x < arr.size → (arr.getD x undef).oneCell' = true

def NRep (β : Places) (Z : Froz) (w : World) (k : Nat) : Node → Prop
  | .row sz es => (es = [] ∧ β k = none) ∨ ∃ b o, β k = some (b, o) ∧ RowRep (FRep Z w) Z w sz es b o
  | .arow sz es => ∃ b o, β k = some (b, o) ∧ RowRep (CRep β Z w) Z w sz es b o
  | .map es => ∃ b ents clock, β k = some (b, 0) ∧ w.heap[b]? = some (.map ents clock) ∧ es.length = ents.size ∧ ¬ Z b 0 ∧
      (∀ (i : Nat) (p : AV × AV), es[i]? = some p → ∃ e, ents[i]? = some e ∧ FRep Z w p.1 e.key ∧ FRep Z w p.2 e.val)

/-- Nothing frozen turns; no block's shape turns. -/
structure Keeps (Z : Froz) (w : World) (Z' : Froz) (w' : World) : Prop where
  froz : ∀ b o, Z b o → Z' b o
  cell : ∀ b o v, Z b o → World.cellOf w b o = some v → World.cellOf w' b o = some v
  map : ∀ b es c, Z b 0 → w.heap[b]? = some (.map es c) → w'.heap[b]? = some (.map es c)
  shape : ∀ b s, w.shape? b = some s → w'.shape? b = some s

theorem Keeps.refl (Z : Froz) (w : World) : Keeps Z w Z w := ⟨fun _ _ h => h, fun _ _ _ _ h => h, fun _ _ _ _ h => h, fun _ _ h => h⟩
theorem Keeps.trans {Z Z' Z'' : Froz} {w w' w'' : World} (h : Keeps Z w Z' w') (k : Keeps Z' w' Z'' w'') : Keeps Z w Z'' w'' :=
  ⟨fun b o z => k.froz b o (h.froz b o z), fun b o v z hv => k.cell b o v (h.froz b o z) (h.cell b o v z hv), fun b es c z hv => k.map b es c (h.froz b 0 z) (h.map b es c z hv), fun b s hs => k.shape b s (h.shape b s hs)⟩

theorem FRep.keeps {Z Z' : Froz} {w w' : World} (k : Keeps Z w Z' w') {v : AV} {u : Value} (h : FRep Z w v u) : FRep Z' w' v u := by
  induction h with
  | dead v => exact .dead v
  | sc v h1 => exact .sc v h1
  | nils => exact .nils
  | fempty sz a cap => exact .fempty sz a cap
  | fsl sz es b o cap u hc hs hm hr ih => exact .fsl sz es b o cap u hc hs (fun i j c h => ⟨k.froz _ _ (hm i j c h).1, k.cell _ _ _ (hm i j c h).1 (hm i j c h).2.1, (hm i j c h).2.2⟩) (fun i j c h => ih i j c h)
  | fp cs b o u hm hr ih => exact .fp cs b o u (fun j c h => ⟨k.froz _ _ (hm j c h).1, k.cell _ _ _ (hm j c h).1 (hm j c h).2.1, (hm j c h).2.2⟩) (fun j c h => ih j c h)
  | fmpN => exact .fmpN
  | fmp es b ents clock hz hh hl hk hv ih1 ih2 => exact .fmp es b ents clock (k.froz _ _ hz) (k.map _ _ _ hz hh) hl ih1 ih2
  | agg cs us hl h1 hr ih => exact .agg cs us hl h1 ih
  | tup cs us hl hr ih => exact .tup cs us hl ih
  | fn f fs cs us vs hl hl' hr hr' ih ih' => exact .fn f fs cs us vs hl hl' ih ih'

theorem CRep.keeps {β β' : Places} {Z Z' : Froz} {w w' : World} (k : Keeps Z w Z' w') (hβ : ∀ n p, β n = some p → β' n = some p) {v : AV} {u : Value} (h : CRep β Z w v u) : CRep β' Z' w' v u := by
  induction h with
  | fro h => exact .fro (h.keeps k)
  | slE n sz i a => exact .slE n sz i a
  | sl n sz i len b o cap hb hc hs =>
    obtain ⟨t, m, h1, h2⟩ := hs
    exact .sl n sz i len b o cap (hβ _ _ hb) hc ⟨t, m, k.shape _ _ h1, h2⟩
  | ptr n sz i off b o hb => exact .ptr n sz i off b o (hβ _ _ hb)
  | mp n b o hb => exact .mp n b o (hβ _ _ hb)
  | agg cs us hl h1 hr ih => exact .agg cs us hl h1 ih
  | tup cs us hl hr ih => exact .tup cs us hl ih
  | fn f fs cs us vs hl hl' hr hr' ih ih' => exact .fn f fs cs us vs hl hl' ih ih'

end Go.Proofs.YtbmlhmgldipnhabGreatE
