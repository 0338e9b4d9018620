/-
  The engine, part 4: operations: what each gives from what is known, and that the model's operation does just that. (Those that touch no memory, and those that read it.)
-/
import Derived.Test.YtbmlhmgldipnhabGreatE3
import Derived.WalkLawsBesides
set_option linter.unusedVariables false
set_option linter.unusedSimpArgs false
namespace Go.Proofs.YtbmlhmgldipnhabGreatE
open Go

mutual
/-- It names no object. -/
def AV.free : AV → Bool
  | .agg cs => frees cs
  | .tup vs => frees vs
  | .fn _ a b => frees a && frees b
  | .sl .. | .ptr .. | .mp .. | .own .. | .optr .. | .omap .. => false
  | _ => true
def frees : List AV → Bool
  | [] => true
  | c :: cs => c.free && frees cs
end
/-- The value of one cell. -/
def AV.one : AV → Bool
  | .agg _ | .tup _ | .dead | .own .. | .optr .. | .omap .. => false
  | _ => true
def AV.plain (v : AV) : Bool := v.one && v.free

theorem frees_get {cs : List AV} (h : frees cs = true) {j : Nat} {c : AV} (hc : cs[j]? = some c) : c.free = true := by
  induction cs generalizing j with
  | nil => simp at hc
  | cons d cs ih =>
    simp only [frees, Bool.and_eq_true] at h
    cases j with
    | zero => simp at hc; subst hc; exact h.1
    | succ j => exact ih h.2 (by simpa using hc)

theorem CRep.frozen {β : Places} {Z : Froz} {w : World} {v : AV} {u : Value} (h : CRep β Z w v u) (hf : v.free = true) : FRep Z w v u := by
  induction h with
  | fro h => exact h
  | slE => simp [AV.free] at hf
  | sl => simp [AV.free] at hf
  | ptr => simp [AV.free] at hf
  | mp => simp [AV.free] at hf
  | agg cs us hl h1 hr ih => exact .agg cs us hl h1 fun j c hc => ih j c hc (frees_get (by simpa [AV.free] using hf) hc)
  | tup cs us hl hr ih => exact .tup cs us hl fun j c hc => ih j c hc (frees_get (by simpa [AV.free] using hf) hc)
  | fn f fs cs us vs hl hl' hr hr' ih ih' =>
    simp only [AV.free, Bool.and_eq_true] at hf
    exact .fn f fs cs us vs hl hl' (fun j c hc => ih j c hc (frees_get hf.1 hc)) (fun j c hc => ih' j c hc (frees_get hf.2 hc))

/-- What stands somewhere naming no object names none anywhere. -/
theorem CRep.frozen_of {β : Places} {Z Z' : Froz} {w w' : World} {v : AV} {u : Value} (h : CRep β Z w v u) : ∀ {u' : Value}, FRep Z' w' v u' → FRep Z w v u := by
  induction h with
  | fro h => exact fun _ => h
  | slE => intro u' h; cases h
  | sl => intro u' h; cases h
  | ptr => intro u' h; cases h
  | mp => intro u' h; cases h
  | agg cs us hl h1 hr ih =>
    intro u' h
    cases h with
    | agg _ us' hl' h1' hr' => exact .agg cs us hl h1 fun j c hc => ih j c hc (hr' j c hc)
  | tup cs us hl hr ih =>
    intro u' h
    cases h with
    | tup _ us' hl' hr' => exact .tup cs us hl fun j c hc => ih j c hc (hr' j c hc)
  | fn f fs cs us vs hl hl' hr hr' ih ih' =>
    intro u' h
    cases h with
    | fn _ _ _ us' vs' k k' kr kr' => exact .fn f fs cs us vs hl hl' (fun j c hc => ih j c hc (kr j c hc)) (fun j c hc => ih' j c hc (kr' j c hc))

theorem CRep.oneCell {β : Places} {Z : Froz} {w : World} {v : AV} {u : Value} (h : CRep β Z w v u) (h1 : v.one = true) : u.oneCell' = true := by
  cases h with
  | fro h => cases h <;> simp_all [AV.one, Value.oneCell']
  | _ => simp_all [AV.one, Value.oneCell']

/-- What an operation gives: its value, the objects that it looks at, the objects that turn (none: given up), the names that are new. -/
structure Ev where
  v : AV
  F : List Nat := []
  U : List (Nat × Option Node) := []
  C : List Nat := []

def St.app (s : St) (d : Option Nat) (e : Ev) : St := { env := (s.put d e.v).env, obs := e.U ++ s.obs, nm := e.C ++ s.nm }
theorem St.app_pure (s : St) (d : Option Nat) (v : AV) (F : List Nat) : s.app d ⟨v, F, [], []⟩ = s.put d v := by cases d <;> rfl

def mkV (ag : Bool) (cs : List AV) : Option AV := if ag then some (.agg cs) else match cs with
  | [c] => some c
  | _ => none

/-- An object's cells as elements of another size. -/
def Node.view (z : Nat) : Node → Option Node
  | .row z' es => if z = z' then some (.row z es) else if 0 < z ∧ (es.length * z') % z = 0 ∧ es.all (fun e => e.length == z') = true then some (.row z ((List.range (es.length * z' / z)).map fun i => (es.flatten.drop (i * z)).take z)) else none
  | .arow z' es => if z = z' then some (.arow z es) else if 0 < z ∧ (es.length * z') % z = 0 ∧ es.all (fun e => e.length == z') = true then some (.arow z ((List.range (es.length * z' / z)).map fun i => (es.flatten.drop (i * z)).take z)) else none
  | .map _ => none

/-- Further operations. -/
inductive X where
  | slc3 (sz : Nat) (x : Opd) (lo : Option Opd) (hi mx : Opd)
  | aslc (n sz : Nat) (x : Opd) (lo hi : Option Opd)
  | aidx (n sz : Nat) (x i : Opd)
  | mmn (mx : Bool) (x : Opd) (xs : List Opd)
  | mkmap
  | mlook (kd : Nat) (z : AV) (comma : Bool) (x k : Opd)
  | mupd (kd : Nat) (x k v : Opd)
  | copy (sz : Nat) (x y : Opd)
  deriving Inhabited

inductive I where
  | mv (x : Opd)
  | pick (c a b : Opd)
  | load (x : Opd) (sz : Nat) (ag : Bool)
  | fld (x : Opd) (off : Nat)
  | idx (x i : Opd) (sz : Nat)
  | len (str : Bool) (x : Opd)
  | nilck (x : Opd)
  | bin (op : BinOp) (x y : Opd)
  | eqs (neg ag : Bool) (ks : List Nat) (x y : Opd)
  | eqnil (neg : Bool) (x : Opd)
  | un (op : UnOp) (x : Opd)
  | conv (k : IntKind) (x : Opd)
  | ext (x : Opd) (i : Nat)
  | mkfn (f : FuncId) (fs cs : List Opd)
  | build (zs : List AV) (parts : List (Nat × Nat × Opd))
  | slc (sz : Nat) (x : Opd) (lo hi : Option Opd)
  | sslc (x : Opd) (lo hi : Option Opd)
  | sidx (x i : Opd)
  | store (x y : Opd) (sz : Nat)
  | box (x : Opd)
  | alloc (zs : List AV)
  | bsl (sz : Nat) (zs : List AV) (n : Nat) (parts : List (Nat × Nat × Opd))
  | app (x y : Opd) (sz bytes : Nat)
  | mm (mx : Bool) (x y : Opd)
  | mksl (sz : Nat) (zs : List AV) (bytes : Nat) (l c : Opd)
  | bad
  | ex (x : X)
  | call (f : FuncId) (args : List Opd)
  | callv (x : Opd) (args : List Opd)
  deriving Inhabited

def AV.cells : AV → List AV
  | .agg cs => cs
  | v => [v]

def AV.isAgg : AV → Bool
  | .agg _ => true
  | _ => false

def natOf : AV → Option Nat
  | .sc (.int _ n) => if 0 ≤ n then some n.toNat else none
  | _ => none

/-- Two scalars of one kind (0: bools, 1: strings, 2: numbers): are they equal. -/
def scEq : Nat → AV → AV → Option Bool
  | 2, .sc (.int k a), .sc (.int k' b) => if k = k' then some (a == b) else none
  | 0, .sc (.bool a), .sc (.bool b) => some (a == b)
  | 1, .sc (.string a), .sc (.string b) => some (a == b)
  | _, _, _ => none
def scEqs : List Nat → List AV → List AV → Option Bool
  | [], [], [] => some true
  | k :: ks, a :: as, b :: bs => (scEq k a b).bind fun x => (scEqs ks as bs).bind fun y => some (x && y)
  | _, _, _ => none

def binI (op : BinOp) (k : IntKind) (a b : Int) : Option AV :=
  match op with
  | .add => some (.sc (.int k (k.wrap (a + b))))
  | .sub => some (.sc (.int k (k.wrap (a - b))))
  | .mul => some (.sc (.int k (k.wrap (a * b))))
  | .quo => if b = 0 then none else some (.sc (.int k (k.wrap (a.tdiv b))))
  | .rem => if b = 0 then none else some (.sc (.int k (a.tmod b)))
  | .and => some (.sc (.int k (k.wrap (BitVec.ofInt k.bits a &&& BitVec.ofInt k.bits b).toNat)))
  | .or => some (.sc (.int k (k.wrap (BitVec.ofInt k.bits a ||| BitVec.ofInt k.bits b).toNat)))
  | .xor => some (.sc (.int k (k.wrap (BitVec.ofInt k.bits a ^^^ BitVec.ofInt k.bits b).toNat)))
  | .andNot => some (.sc (.int k (k.wrap (BitVec.ofInt k.bits a &&& ~~~ BitVec.ofInt k.bits b).toNat)))
  | .eql => some (.sc (.bool (a == b)))
  | .neq => some (.sc (.bool (a != b)))
  | .lss => some (.sc (.bool (decide (a < b))))
  | .leq => some (.sc (.bool (decide (a ≤ b))))
  | .gtr => some (.sc (.bool (decide (a > b))))
  | .geq => some (.sc (.bool (decide (a ≥ b))))
  | _ => none

def binS (op : BinOp) (a b : ByteArray) : Option AV :=
  match op with
  | .add => if a.size + b.size ≤ 9223372036854775807 then some (.sc (.string (a ++ b))) else none
  | .eql => some (.sc (.bool (a == b)))
  | .neq => some (.sc (.bool (!(a == b))))
  | .lss => some (.sc (.bool (Op.bytesLess a.toList b.toList)))
  | .leq => some (.sc (.bool (Op.bytesLess a.toList b.toList || a == b)))
  | .gtr => some (.sc (.bool (!(Op.bytesLess a.toList b.toList || a == b))))
  | .geq => some (.sc (.bool (!Op.bytesLess a.toList b.toList)))
  | _ => none

def binV (op : BinOp) : AV → AV → Option AV
  | .sc (.int k a), .sc (.int k' b) =>
    match op with
    | .shl => if b < 0 then none else some (.sc (.int k (k.wrap (a * 2 ^ min b.toNat k.bits))))
    | .shr => if b < 0 then none else some (.sc (.int k (a.fdiv (2 ^ min b.toNat k.bits))))
    | _ => if k = k' then binI op k a b else none
  | .sc (.string a), .sc (.string b) => binS op a b
  | _, _ => none

def unV (op : UnOp) : AV → Option AV
  | .sc (.bool b) => match op with
    | .not => some (.sc (.bool (!b)))
    | _ => none
  | .sc (.int k n) => match op with
    | .neg => some (.sc (.int k (k.wrap (0 - n))))
    | .xor => some (.sc (.int k (k.wrap (BitVec.ofInt k.bits (if k.signed then -1 else k.max) ^^^ BitVec.ofInt k.bits n).toNat)))
    | _ => none
  | _ => none

def setCells (cs : List AV) (off : Nat) (ds : List AV) : List AV := cs.take off ++ ds ++ cs.drop (off + ds.length)

def loadV (ob : Nat → Option Node) (sz : Nat) (ag : Bool) : AV → Option Ev
  | .fp cs => if sz ≤ cs.length then (mkV ag (cs.take sz)).map fun v => ⟨v, [], [], []⟩ else none
  | .ptr k z i off =>
    match ob k with
    | some (.row z' es) | some (.arow z' es) =>
      if z = z' then
        match es[i]? with
        | some e => if off + sz ≤ e.length then (mkV ag ((e.drop off).take sz)).map fun v => ⟨v, [k], [], []⟩ else none
        | none => none
      else none
    | _ => none
  | _ => none

def storeV (ob : Nat → Option Node) (sz : Nat) (x y : AV) : Option Ev :=
  match x with
  | .ptr k z i off =>
    match ob k with
    | some (.row z' es) =>
      if z = z' ∧ y.cells.length = sz ∧ y.cells.all AV.plain then
        match es[i]? with
        | some e => if off + sz ≤ e.length then some ⟨.dead, [k], [(k, some (.row z (es.set i (setCells e off y.cells))))], []⟩ else none
        | none => none
      else none
    | some (.arow z' es) =>
      if z = z' ∧ y.cells.length = sz ∧ y.cells.all AV.one then
        match es[i]? with
        | some e => if off + sz ≤ e.length then some ⟨.dead, [k], [(k, some (.arow z (es.set i (setCells e off y.cells))))], []⟩ else none
        | none => none
      else none
    | _ => none
  | _ => none

def idxV (sz : Nat) (x i : AV) : Option AV :=
  match x, i with
  | .fsl z es, .sc (.int _ n) => if z = sz ∧ 0 ≤ n then (es[n.toNat]?).map .fp else none
  | .sl k z i0 len, .sc (.int _ n) => if z = sz ∧ 0 ≤ n ∧ n < len then some (.ptr k z (i0 + n.toNat) 0) else none
  | _, _ => none

def lenV : Bool → AV → Option Int
  | false, .nils => some 0
  | false, .fsl _ es => some es.length
  | false, .sl _ _ _ n => some n
  | true, .sc (.string s) => some s.size
  | _, _ => none

def boundOf (g : Opd → AV) (d : Nat) : Option Opd → Option Nat
  | none => some d
  | some x => natOf (g x)

def slcV (g : Opd → AV) (sz0 : Nat) (x : AV) (lo hi : Option Opd) : Option AV :=
  match x with
  | .nils => do
    let h ← boundOf g 0 hi
    let l ← boundOf g 0 lo
    if l ≤ h ∧ h ≤ 0 then some .nils else none
  | .fsl sz es => do
    let h ← boundOf g es.length hi
    let l ← boundOf g 0 lo
    if sz = sz0 ∧ l ≤ h ∧ h ≤ es.length then some (.fsl sz ((es.take h).drop l)) else none
  | .sl k sz i len => do
    let h ← boundOf g len hi
    let l ← boundOf g 0 lo
    if sz = sz0 ∧ l ≤ h ∧ h ≤ len then some (.sl k sz (i + l) (h - l)) else none
  | _ => none

def nodeOf (sz : Nat) (es : List (List AV)) : Node := if es.all (·.all AV.plain) then .row sz es else .arow sz es

/-- Cells with parts laid into them: a part's place, its size, its value. -/
def buildV (g : Opd → AV) : List AV → List (Nat × Nat × Opd) → Option (List AV)
  | cs, [] => some cs
  | cs, p :: ps => if (g p.2.2).cells.length = p.2.1 ∧ p.1 + p.2.1 ≤ cs.length ∧ (g p.2.2).cells.all AV.one then buildV g (setCells cs p.1 (g p.2.2).cells) ps else none
def chunk (sz n : Nat) (cs : List AV) : List (List AV) := (List.range n).map fun i => (cs.drop (i * sz)).take sz

/-- The elements that are appended. -/
def srcV (ob : Nat → Option Node) (sz : Nat) : AV → Option (List (List AV) × List Nat)
  | .nils => some ([], [])
  | .fsl z es => if z = sz then some (es, []) else none
  | .sl k z i len =>
    match ob k with
    | some (.row z' es) | some (.arow z' es) => if z = sz ∧ z' = sz ∧ i + len ≤ es.length then some ((es.drop i).take len, [k]) else none
    | _ => none
  | _ => none

def appV (ob : Nat → Option Node) (m sz bytes : Nat) (x y : AV) : Option Ev :=
  (srcV ob sz y).bind fun q =>
    match x with
    | .nils => if q.1.length * bytes ≤ 140737488355328 then some ⟨.sl m sz 0 q.1.length, q.2, [(m, some (nodeOf sz q.1))], [m]⟩ else none
    | .sl k z i len =>
      match ob k with
      | some (.row z' es) | some (.arow z' es) =>
        if z = sz ∧ z' = sz ∧ i + len ≤ es.length ∧ (len + q.1.length) * bytes ≤ 140737488355328 then
          some ⟨.sl m sz 0 (len + q.1.length), k :: q.2, [(m, some (nodeOf sz ((es.drop i).take len ++ q.1))), (k, none)], [m]⟩
        else none
      | _ => none
    | _ => none

def mm2 (mx : Bool) : AV → AV → Option AV
  | .sc (.int k a), .sc (.int _ b) => some (.sc (.int k (if mx then (if b > a then b else a) else (if b < a then b else a))))
  | _, _ => none
def mmF (mx : Bool) (g : Opd → AV) : AV → List Opd → Option AV
  | v, [] => some v
  | v, x :: xs => (mm2 mx v (g x)).bind fun v => mmF mx g v xs

/-- Where a key stands in a map. -/
def findA (kd : Nat) (key : AV) : List (AV × AV) → Nat → Option (Option (Nat × AV))
  | [], _ => some none
  | e :: es, i => match scEq kd key e.1 with
    | some true => some (some (i, e.2))
    | some false => findA kd key es (i + 1)
    | none => none

def AV.isInt : AV → Bool
  | .sc (.int _ _) => true
  | _ => false
/-- A scalar of a map's keys' kind. -/
def AV.isKey : Nat → AV → Bool
  | 2, .sc (.int _ _) => true
  | 0, .sc (.bool _) => true
  | 1, .sc (.string _) => true
  | _, _ => false

def X.eval (o : X) (g : Opd → AV) (ob : Nat → Option Node) (m : Nat) : Option Ev :=
  match o with
  | .slc3 sz x lo hi mx => match slcV g sz (g x) lo (some hi), natOf (g hi), natOf (g mx), lenV false (g x) with
    | some v, some h, some k, some n => if h ≤ k ∧ (k : Int) ≤ n then some ⟨v, [], [], []⟩ else none
    | _, _, _, _ => none
  | .aslc n sz x lo hi => match boundOf g n hi, boundOf g 0 lo with
    | some h, some l => if l ≤ h ∧ h ≤ n ∧ 0 < sz then match g x with
      | .ptr k z i off => match ob k with
        | some (.row z' es) | some (.arow z' es) => if (i * z + off) % sz = 0 ∧ i * z + off + n * sz ≤ es.length * z' then some ⟨.sl k sz ((i * z + off) / sz + l) (h - l), [k], [], []⟩ else none
        | _ => none
      | _ => none
      else none
    | _, _ => none
  | .aidx n sz x i => match g i with
    | .sc (.int _ q) => if 0 ≤ q ∧ q < n then match g x with
      | .ptr k z j off => some ⟨.ptr k z j (off + q.toNat * sz), [], [], []⟩
      | .fp cs => some ⟨.fp (cs.drop (q.toNat * sz)), [], [], []⟩
      | _ => none
      else none
    | _ => none
  | .mmn mx x xs => (mmF mx g (g x) xs).bind fun v => if v.isInt then some ⟨v, [], [], []⟩ else none
  | .mkmap => some ⟨.mp m, [], [(m, some (.map []))], [m]⟩
  | .mlook kd z comma x k => match g x with
    | .mp r => match ob r with
      | some (.map es) => if (g k).isKey kd then match findA kd (g k) es 0 with
        | some (some (_, v)) => some ⟨if comma then .tup [v, .sc (.bool true)] else v, [r], [], []⟩
        | some none => some ⟨if comma then .tup [z, .sc (.bool false)] else z, [r], [], []⟩
        | none => none
        else none
      | _ => none
    | _ => none
  | .mupd kd x k v => match g x with
    | .mp r => match ob r with
      | some (.map es) => if (g k).isKey kd ∧ (g v).free then match findA kd (g k) es 0 with
        | some (some (i, _)) => some ⟨.dead, [r], [(r, some (.map (es.set i (g k, g v))))], []⟩
        | some none => some ⟨.dead, [r], [(r, some (.map (es ++ [(g k, g v)])))], []⟩
        | none => none
        else none
      | _ => none
    | _ => none
  | .copy sz x y => match srcV ob sz (g y) with
    | some q => match g x with
      | .nils => if q.1.length = 0 then some ⟨.sc (.int .i64 0), q.2, [], []⟩ else none
      | .sl k z i len => if q.1.length = 0 then some ⟨.sc (.int .i64 0), k :: q.2, [], []⟩ else if z = sz ∧ q.1.length ≤ len then match ob k with
        | some (.row z' es) => if z' = sz ∧ i + len ≤ es.length ∧ q.1.all (·.all AV.plain) = true then some ⟨.sc (.int .i64 q.1.length), k :: q.2, [(k, some (.row sz (es.take i ++ q.1 ++ es.drop (i + q.1.length))))], []⟩ else none
        | some (.arow z' es) => if z' = sz ∧ i + len ≤ es.length then some ⟨.sc (.int .i64 q.1.length), k :: q.2, [(k, some (.arow sz (es.take i ++ q.1 ++ es.drop (i + q.1.length))))], []⟩ else none
        | _ => none
        else none
      | _ => none
    | none => none

/-- The operations that are no calls of functions. 'm': the name of a new object. -/
def I.eval (i : I) (g : Opd → AV) (ob : Nat → Option Node) (m : Nat) : Option Ev :=
  let pure (v : AV) : Option Ev := some ⟨v, [], [], []⟩
  match i with
  | .mv x => pure (g x)
  | .pick c a b => match g c with
    | .sc (.bool t) => pure (if t then g a else g b)
    | _ => none
  | .load x sz ag => loadV ob sz ag (g x)
  | .fld x off => match g x with
    | .fp cs => pure (.fp (cs.drop off))
    | .ptr k z i o => pure (.ptr k z i (o + off))
    | _ => none
  | .idx x i sz => (idxV sz (g x) (g i)).bind pure
  | .len str x => (lenV str (g x)).bind fun n => pure (.sc (.int .i64 n))
  | .nilck x => match g x with
    | .fp cs => pure (.fp cs)
    | .ptr k z i o => pure (.ptr k z i o)
    | .fn f a b => pure (.fn f a b)
    | _ => none
  | .bin op x y => (binV op (g x) (g y)).bind pure
  | .eqs neg ag ks x y => if (g x).isAgg = ag ∧ (g y).isAgg = ag then (scEqs ks (g x).cells (g y).cells).bind fun b => pure (.sc (.bool (if neg then !b else b))) else none
  | .eqnil neg x => match g x with
    | .nils => pure (.sc (.bool (!neg)))
    | .fsl _ (_ :: _) => pure (.sc (.bool neg))
    | .sl _ _ _ (_ + 1) => pure (.sc (.bool neg))
    | _ => none
  | .un op x => (unV op (g x)).bind pure
  | .conv k x => match g x with
    | .sc (.int _ n) => pure (.sc (.int k (k.wrap n)))
    | _ => none
  | .ext x i => match g x with
    | .tup vs => (vs[i]?).bind pure
    | _ => none
  | .mkfn f fs cs => pure (.fn f (fs.map g) (cs.map g))
  | .build zs parts => (buildV g zs parts).bind fun cs => pure (.agg cs)
  | .slc sz x lo hi => (slcV g sz (g x) lo hi).bind pure
  | .sslc x lo hi => match g x with
    | .sc (.string s) => do
      let h ← boundOf g s.size hi
      let l ← boundOf g 0 lo
      if l ≤ h ∧ h ≤ s.size then pure (.sc (.string (s.extract l h))) else none
    | _ => none
  | .sidx x i => match g x, g i with
    | .sc (.string s), .sc (.int _ n) => if 0 ≤ n then (s.data[n.toNat]?).bind fun b => pure (.sc (.int .u8 b.toNat)) else none
    | _, _ => none
  | .store x y sz => storeV ob sz (g x) (g y)
  | .box x => if (g x).cells.all AV.one then some ⟨.ptr m (g x).cells.length 0 0, [], [(m, some (nodeOf (g x).cells.length [(g x).cells]))], [m]⟩ else none
  | .alloc zs => some ⟨.ptr m zs.length 0 0, [], [(m, some (nodeOf zs.length [zs]))], [m]⟩
  | .bsl sz zs n parts => (buildV g (List.replicate n zs).flatten parts).bind fun cs => some ⟨.sl m sz 0 n, [], [(m, some (nodeOf sz (chunk sz n cs)))], [m]⟩
  | .app x y sz bytes => appV ob m sz bytes (g x) (g y)
  | .mm mx x y => match g x, g y with
    | .sc (.int k a), .sc (.int _ b) => pure (.sc (.int k (if mx then (if b > a then b else a) else (if b < a then b else a))))
    | _, _ => none
  | .mksl sz zs bytes l c => match g l, g c with
    | .sc (.int _ a), .sc (.int _ b) => if 0 ≤ a ∧ a ≤ b ∧ (bytes : Int) * b ≤ 281474976710656 ∧ b ≤ 9223372036854775807 then some ⟨.sl m sz 0 a.toNat, [], [(m, some (nodeOf sz (List.replicate a.toNat zs)))], [m]⟩ else none
    | _, _ => none
  | .ex x => x.eval g ob m
  | _ => none

end Go.Proofs.YtbmlhmgldipnhabGreatE
