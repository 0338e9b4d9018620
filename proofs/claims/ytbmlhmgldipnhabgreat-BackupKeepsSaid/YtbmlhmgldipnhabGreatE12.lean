/-
  The engine, part 12: a model's operation as one of ours; the one does what the other says.
-/
import Derived.Test.YtbmlhmgldipnhabGreatE11
set_option linter.unusedVariables false
set_option linter.unusedSimpArgs false
namespace Go.Proofs.YtbmlhmgldipnhabGreatE
open Go

def placesOf (P : Program) : List Field → Option (List (Nat × Nat))
  | [] => some []
  | f :: fs => (szOf P f.type).bind fun n => (placesOf P fs).bind fun r => some ((f.offset, n) :: r)

def cOpds : List Operand → Option (List Opd)
  | [] => some []
  | x :: xs => (cOpd x).bind fun y => (cOpds xs).bind fun r => some (y :: r)

def cOpt : Option Operand → Option (Option Opd)
  | none => some none
  | some x => (cOpd x).map some

def isNilConst : Operand → Bool
  | .const (.slice none 0 0) => true
  | _ => false

/-- '==' and '!='. -/
def compEq (P : Program) (neg : Bool) (t : TypeId) (x y : Operand) : Option I :=
  match P.underlying t with
  | some (.int _) | some .string => (cOpd x).bind fun x => (cOpd y).bind fun y => some (.bin (if neg then .neq else .eql) x y)
  | some (.slice _) => if isNilConst y then (cOpd x).map (.eqnil neg) else if isNilConst x then (cOpd y).map (.eqnil neg) else none
  | some .bool => (cOpd x).bind fun x => (cOpd y).bind fun y => some (.eqs neg false [0] x y)
  | some (.struct _) => if P.eqGuardType P.depth t = false then (eqShape P 20 t).bind fun ks => (cOpd x).bind fun x => (cOpd y).bind fun y => some (.eqs neg true ks x y) else none
  | some (.array _ _) => if P.eqGuardType P.depth t = false then (eqShape P 20 t).bind fun ks => (cOpd x).bind fun x => (cOpd y).bind fun y => some (.eqs neg true ks x y) else none
  | _ => none

def elemBytes (P : Program) (e : TypeId) : Option Nat := (P.info? e).map (·.bytes)

def compCall (P : Program) (c : Call) : Option I :=
  match c.callee with
  | .value (.func f) => if ((P.funcs[f]?).map fun fn => fn.body.isSome && fn.name != "runtime.NumGoroutine") = some true then (cOpds c.args.toList).map (.call f) else none
  | .value x => (cOpd x).bind fun x => (cOpds c.args.toList).map (.callv x)
  | .builtin .len =>
    match c.args.toList, c.argTypes.toList with
    | [x], [t] => match P.underlying t with
      | some (.slice _) => (cOpd x).map (.len false)
      | some .string => (cOpd x).map (.len true)
      | _ => none
    | _, _ => none
  | .builtin .append =>
    match c.args.toList, c.argTypes.toList with
    | [x, y], [t, tx] => match P.underlying t, P.underlying tx with
      | some (.slice e), some (.slice _) => (szOf P e).bind fun sz => (elemBytes P e).bind fun by' => (zeroOf P e).bind fun zs => if zs.length = sz ∧ 0 < by' then (cOpd x).bind fun x => (cOpd y).bind fun y => some (.app x y sz by') else none
      | _, _ => none
    | _, _ => none
  | .builtin .max =>
    match c.args.toList with
    | [x, y] => (cOpd x).bind fun x => (cOpd y).bind fun y => some (.mm true x y)
    | x :: l => (cOpd x).bind fun x => (cOpds l).map fun l => .ex (.mmn true x l)
    | _ => none
  | .builtin .min =>
    match c.args.toList with
    | [x, y] => (cOpd x).bind fun x => (cOpd y).bind fun y => some (.mm false x y)
    | x :: l => (cOpd x).bind fun x => (cOpds l).map fun l => .ex (.mmn false x l)
    | _ => none
  | .builtin .copy =>
    match c.args.toList, c.argTypes.toList with
    | [x, y], [t, tx] => match P.underlying t, P.underlying tx with
      | some (.slice e), some (.slice _) => (szOf P e).bind fun sz => (cOpd x).bind fun x => (cOpd y).map fun y => .ex (.copy sz x y)
      | _, _ => some .bad
    | _, _ => some .bad
  | _ => some .bad

/-- The kind of a map's keys. -/
def keyKind (P : Program) (t : TypeId) : Option Nat := match P.underlying t with
  | some (.int _) => some 2
  | some .bool => some 0
  | some .string => some 1
  | _ => none

/-- The zero value of a type of scalars. -/
def zeroS (P : Program) (t : TypeId) : Option AV := ((P.info? t).bind (·.zero)).bind fun z => match z with
  | .int k n => some (.sc (.int k n))
  | .bool b => some (.sc (.bool b))
  | .string b => some (.sc (.string b))
  | _ => none

/-- Further operations. -/
def compX (P : Program) (o : Oper) : Option X :=
  match o.op with
  | .slice t x lo (some hi) (some mx) => match P.underlying t with
    | some (.slice e) => (szOf P e).bind fun sz => (cOpd x).bind fun x => (cOpt lo).bind fun lo => (cOpd hi).bind fun hi => (cOpd mx).map fun mx => .slc3 sz x lo hi mx
    | _ => none
  | .slice t x lo hi none => match P.underlying t with
    | some (.array n e) => (szOf P e).bind fun sz => if 0 < sz then (cOpd x).bind fun x => (cOpt lo).bind fun lo => (cOpt hi).map fun hi => .aslc n sz x lo hi else none
    | _ => none
  | .indexAddr t x i => match P.underlying t with
    | some (.array n e) => (szOf P e).bind fun sz => (cOpd x).bind fun x => (cOpd i).map fun i => .aidx n sz x i
    | _ => none
  | .makeMap _ none => some .mkmap
  | .lookup t x k comma => match P.underlying t with
    | some (.map kt vt) => (keyKind P kt).bind fun kd => (zeroS P vt).bind fun z => (cOpd x).bind fun x => (cOpd k).map fun k => .mlook kd z comma x k
    | _ => none
  | .mapUpdate t x k v => if o.dst = none then match P.underlying t with
    | some (.map kt vt) => (keyKind P kt).bind fun kd => (cOpd x).bind fun x => (cOpd k).bind fun k => (cOpd v).map fun v => .mupd kd x k v
    | _ => none else none
  | _ => none
def extI (P : Program) (o : Oper) : I := match compX P o with
  | some x => .ex x
  | none => .bad

def compI (P : Program) (o : Oper) : Option I :=
  match o.op with
  | .move x | .assign x => (cOpd x).map .mv
  | .pick c a b => (cOpd c).bind fun c => (cOpd a).bind fun a => (cOpd b).bind fun b => some (.pick c a b)
  | .alloc e => (zeroOf P e).map .alloc
  | .box _ x => (cOpd x).map .box
  | .build t parts =>
    match P.underlying t with
    | some (.struct fs) => (zeroOf P t).bind fun zs => (placesOf P fs.toList).bind fun pl => (cParts (pl[·]?) parts.toList).map (.build zs)
    | some (.array _ e) => (zeroOf P t).bind fun zs => (szOf P e).bind fun sz => (cParts (fun i => some (i * sz, sz)) parts.toList).map (.build zs)
    | _ => none
  | .buildSlice t n parts =>
    match P.underlying t with
    | some (.slice e) => (zeroOf P e).bind fun zs => (szOf P e).bind fun sz => if zs.length = sz ∧ n * sz ≤ 2 ^ 24 then (cParts (fun i => some (i * sz, sz)) parts.toList).map (.bsl sz zs n) else none
    | _ => none
  | .load t x => (szOf P t).bind fun sz => (agOf P t).bind fun ag => if ag = true ∨ sz = 1 then (cOpd x).map fun x => .load x sz ag else none
  | .store t x y => if o.dst = none then (szOf P t).bind fun sz => if 0 < sz then (cOpd x).bind fun x => (cOpd y).map fun y => .store x y sz else none else none
  | .nilCheck x => (cOpd x).map .nilck
  | .binOp .eql t x y _ => compEq P false t x y
  | .binOp .neq t x y _ => compEq P true t x y
  | .binOp op _ x y _ => (cOpd x).bind fun x => (cOpd y).bind fun y => some (.bin op x y)
  | .unOp op _ x => (cOpd x).map (.un op)
  | .convert s t x => match P.underlying s, P.underlying t with
    | some (.int _), some (.int k) => (cOpd x).map (.conv k)
    | _, _ => some .bad
  | .makeFunc (.func f) fs cs => (cOpds fs.toList).bind fun fs => (cOpds cs.toList).map (.mkfn f fs)
  | .slice t x lo hi none => match P.underlying t with
    | some (.slice e) => (szOf P e).bind fun sz => (cOpd x).bind fun x => (cOpt lo).bind fun lo => (cOpt hi).map fun hi => .slc sz x lo hi
    | some .string => (cOpd x).bind fun x => (cOpt lo).bind fun lo => (cOpt hi).map fun hi => .sslc x lo hi
    | _ => some (extI P o)
  | .fieldAddr t x f => match P.underlying t with
    | some (.struct fs) => (fs[f]?).bind fun fl => (szOf P fl.type).bind fun n => if n ≠ 0 then (cOpd x).map fun x => .fld x fl.offset else none
    | _ => none
  | .indexAddr t x i => match P.underlying t with
    | some (.slice e) => (szOf P e).bind fun sz => (cOpd x).bind fun x => (cOpd i).map fun i => .idx x i sz
    | _ => some (extI P o)
  | .index t x i => match P.underlying t with
    | some .string => (cOpd x).bind fun x => (cOpd i).map fun i => .sidx x i
    | _ => none
  | .extract x i => (cOpd x).map fun x => .ext x i
  | .call c => compCall P c
  | .makeSlice t l c => match P.underlying t with
    | some (.slice e) => (P.info? e).bind fun inf => (zeroOf P e).bind fun zs => if zs.length = inf.size then (cOpd l).bind fun l => (cOpd c).map fun c => .mksl zs.length zs inf.bytes l c else none
    | _ => some .bad
  | _ => some (extI P o)

end Go.Proofs.YtbmlhmgldipnhabGreatE
