/-
  The engine, part 31: the evaluator again, each step a name of its own, so that the kernel writes little. It gives the same.
-/
import Derived.Test.YtbmlhmgldipnhabGreatE30
set_option linter.unusedVariables false
set_option linter.unusedSimpArgs false
namespace Go.Proofs.YtbmlhmgldipnhabGreatE
open Go
noncomputable section

def pEv (v : AV) : Option Ev := some ⟨v, [], [], []⟩
def bindP (q : Option AV) : Option Ev := @Option.rec AV (fun _ => Option Ev) none pEv q

def kX_slc3 (sz : Nat) (x : Opd) (lo : Option Opd) (hi : Opd) (mx : Opd) (g : Opd → AV) (ob : Nat → Option Node) (m : Nat) : Option Ev :=
    match slcV g sz (g x) lo (some hi), natOf (g hi), natOf (g mx), lenV false (g x) with
    | some v, some h, some k, some n => if h ≤ k ∧ (k : Int) ≤ n then some ⟨v, [], [], []⟩ else none
    | _, _, _, _ => none
def kX_aslc (n : Nat) (sz : Nat) (x : Opd) (lo : Option Opd) (hi : Option Opd) (g : Opd → AV) (ob : Nat → Option Node) (m : Nat) : Option Ev :=
    match boundOf g n hi, boundOf g 0 lo with
    | some h, some l => if l ≤ h ∧ h ≤ n ∧ 0 < sz then match g x with
      | .ptr k z i off => match ob k with
        | some (.row z' es) | some (.arow z' es) => if (i * z + off) % sz = 0 ∧ i * z + off + n * sz ≤ es.length * z' then some ⟨.sl k sz ((i * z + off) / sz + l) (h - l), [k], [], []⟩ else none
        | _ => none
      | _ => none
      else none
    | _, _ => none
def kX_aidx (n : Nat) (sz : Nat) (x : Opd) (i : Opd) (g : Opd → AV) (ob : Nat → Option Node) (m : Nat) : Option Ev :=
    match g i with
    | .sc (.int _ q) => if 0 ≤ q ∧ q < n then match g x with
      | .ptr k z j off => some ⟨.ptr k z j (off + q.toNat * sz), [], [], []⟩
      | .fp cs => some ⟨.fp (cs.drop (q.toNat * sz)), [], [], []⟩
      | _ => none
      else none
    | _ => none
def kX_mmn (mx : Bool) (x : Opd) (xs : List Opd) (g : Opd → AV) (ob : Nat → Option Node) (m : Nat) : Option Ev :=
    (mmF mx g (g x) xs).bind fun v => if v.isInt then some ⟨v, [], [], []⟩ else none
def kX_mkmap  (g : Opd → AV) (ob : Nat → Option Node) (m : Nat) : Option Ev :=
    some ⟨.mp m, [], [(m, some (.map []))], [m]⟩
def kX_mlook (kd : Nat) (z : AV) (comma : Bool) (x : Opd) (k : Opd) (g : Opd → AV) (ob : Nat → Option Node) (m : Nat) : Option Ev :=
    match g x with
    | .mp r => match ob r with
      | some (.map es) => if (g k).isKey kd then match findA kd (g k) es 0 with
        | some (some (_, v)) => some ⟨if comma then .tup [v, .sc (.bool true)] else v, [r], [], []⟩
        | some none => some ⟨if comma then .tup [z, .sc (.bool false)] else z, [r], [], []⟩
        | none => none
        else none
      | _ => none
    | _ => none
def kX_mupd (kd : Nat) (x : Opd) (k : Opd) (v : Opd) (g : Opd → AV) (ob : Nat → Option Node) (m : Nat) : Option Ev :=
    match g x with
    | .mp r => match ob r with
      | some (.map es) => if (g k).isKey kd ∧ (g v).free then match findA kd (g k) es 0 with
        | some (some (i, _)) => some ⟨.dead, [r], [(r, some (.map (es.set i (g k, g v))))], []⟩
        | some none => some ⟨.dead, [r], [(r, some (.map (es ++ [(g k, g v)])))], []⟩
        | none => none
        else none
      | _ => none
    | _ => none
def kX_copy (sz : Nat) (x : Opd) (y : Opd) (g : Opd → AV) (ob : Nat → Option Node) (m : Nat) : Option Ev :=
    match srcV ob sz (g y) with
    | some q => match g x with
      | .nils => if q.1.length = 0 then some ⟨.sc (.int .i64 0), q.2, [], []⟩ else none
      | .sl k z i len => if q.1.length = 0 then some ⟨.sc (.int .i64 0), k :: q.2, [], []⟩ else if z = sz ∧ q.1.length ≤ len then match ob k with
        | some (.row z' es) => if z' = sz ∧ i + len ≤ es.length ∧ q.1.all (·.all AV.plain) = true then some ⟨.sc (.int .i64 q.1.length), k :: q.2, [(k, some (.row sz (es.take i ++ q.1 ++ es.drop (i + q.1.length))))], []⟩ else none
        | some (.arow z' es) => if z' = sz ∧ i + len ≤ es.length then some ⟨.sc (.int .i64 q.1.length), k :: q.2, [(k, some (.arow sz (es.take i ++ q.1 ++ es.drop (i + q.1.length))))], []⟩ else none
        | _ => none
        else none
      | _ => none
    | none => none
def X.evK (i : X) (g : Opd → AV) (ob : Nat → Option Node) (m : Nat) : Option Ev :=
  @X.casesOn (fun _ => Option Ev) i (fun x0 x1 x2 x3 x4 => kX_slc3 x0 x1 x2 x3 x4 g ob m) (fun x0 x1 x2 x3 x4 => kX_aslc x0 x1 x2 x3 x4 g ob m) (fun x0 x1 x2 x3 => kX_aidx x0 x1 x2 x3 g ob m) (fun x0 x1 x2 => kX_mmn x0 x1 x2 g ob m) (kX_mkmap g ob m) (fun x0 x1 x2 x3 x4 => kX_mlook x0 x1 x2 x3 x4 g ob m) (fun x0 x1 x2 x3 => kX_mupd x0 x1 x2 x3 g ob m) (fun x0 x1 x2 => kX_copy x0 x1 x2 g ob m)
theorem X.evK_eq (i : X) (g : Opd → AV) (ob : Nat → Option Node) (m : Nat) : i.evK g ob m = i.eval g ob m := by cases i <;> rfl
def kI_mv (x : Opd) (g : Opd → AV) (ob : Nat → Option Node) (m : Nat) : Option Ev :=
    pEv (g x)
def kI_pick (c : Opd) (a : Opd) (b : Opd) (g : Opd → AV) (ob : Nat → Option Node) (m : Nat) : Option Ev :=
    match g c with
    | .sc (.bool t) => pEv (if t then g a else g b)
    | _ => none
def kI_load (x : Opd) (sz : Nat) (ag : Bool) (g : Opd → AV) (ob : Nat → Option Node) (m : Nat) : Option Ev :=
    loadV ob sz ag (g x)
def kI_fld (x : Opd) (off : Nat) (g : Opd → AV) (ob : Nat → Option Node) (m : Nat) : Option Ev :=
    match g x with
    | .fp cs => pEv (.fp (cs.drop off))
    | .ptr k z i o => pEv (.ptr k z i (o + off))
    | _ => none
def kI_idx (x : Opd) (i : Opd) (sz : Nat) (g : Opd → AV) (ob : Nat → Option Node) (m : Nat) : Option Ev :=
    (idxV sz (g x) (g i)).bind pEv
def kI_len (str : Bool) (x : Opd) (g : Opd → AV) (ob : Nat → Option Node) (m : Nat) : Option Ev :=
    (lenV str (g x)).bind fun n => pEv (.sc (.int .i64 n))
def kI_nilck (x : Opd) (g : Opd → AV) (ob : Nat → Option Node) (m : Nat) : Option Ev :=
    match g x with
    | .fp cs => pEv (.fp cs)
    | .ptr k z i o => pEv (.ptr k z i o)
    | .fn f a b => pEv (.fn f a b)
    | _ => none
def kI_bin (op : BinOp) (x : Opd) (y : Opd) (g : Opd → AV) (ob : Nat → Option Node) (m : Nat) : Option Ev :=
    (binV op (g x) (g y)).bind pEv
def kI_eqs (neg : Bool) (ag : Bool) (ks : List Nat) (x : Opd) (y : Opd) (g : Opd → AV) (ob : Nat → Option Node) (m : Nat) : Option Ev :=
    if (g x).isAgg = ag ∧ (g y).isAgg = ag then (scEqs ks (g x).cells (g y).cells).bind fun b => pEv (.sc (.bool (if neg then !b else b))) else none
def kI_eqnil (neg : Bool) (x : Opd) (g : Opd → AV) (ob : Nat → Option Node) (m : Nat) : Option Ev :=
    match g x with
    | .nils => pEv (.sc (.bool (!neg)))
    | .fsl _ (_ :: _) => pEv (.sc (.bool neg))
    | .sl _ _ _ (_ + 1) => pEv (.sc (.bool neg))
    | _ => none
def kI_un (op : UnOp) (x : Opd) (g : Opd → AV) (ob : Nat → Option Node) (m : Nat) : Option Ev :=
    (unV op (g x)).bind pEv
def kI_conv (k : IntKind) (x : Opd) (g : Opd → AV) (ob : Nat → Option Node) (m : Nat) : Option Ev :=
    match g x with
    | .sc (.int _ n) => pEv (.sc (.int k (k.wrap n)))
    | _ => none
def kI_ext (x : Opd) (i : Nat) (g : Opd → AV) (ob : Nat → Option Node) (m : Nat) : Option Ev :=
    match g x with
    | .tup vs => (vs[i]?).bind pEv
    | _ => none
def kI_mkfn (f : FuncId) (fs : List Opd) (cs : List Opd) (g : Opd → AV) (ob : Nat → Option Node) (m : Nat) : Option Ev :=
    pEv (.fn f (fs.map g) (cs.map g))
def kI_build (zs : List AV) (parts : List (Nat × Nat × Opd)) (g : Opd → AV) (ob : Nat → Option Node) (m : Nat) : Option Ev :=
    (buildV g zs parts).bind fun cs => pEv (.agg cs)
def kI_slc (sz : Nat) (x : Opd) (lo : Option Opd) (hi : Option Opd) (g : Opd → AV) (ob : Nat → Option Node) (m : Nat) : Option Ev :=
    (slcV g sz (g x) lo hi).bind pEv
def kI_sslc (x : Opd) (lo : Option Opd) (hi : Option Opd) (g : Opd → AV) (ob : Nat → Option Node) (m : Nat) : Option Ev :=
    match g x with
    | .sc (.string s) => do
      let h ← boundOf g s.size hi
      let l ← boundOf g 0 lo
      if l ≤ h ∧ h ≤ s.size then pEv (.sc (.string (s.extract l h))) else none
    | _ => none
def kI_sidx (x : Opd) (i : Opd) (g : Opd → AV) (ob : Nat → Option Node) (m : Nat) : Option Ev :=
    match g x, g i with
    | .sc (.string s), .sc (.int _ n) => if 0 ≤ n then (s.data[n.toNat]?).bind fun b => pEv (.sc (.int .u8 b.toNat)) else none
    | _, _ => none
def kI_store (x : Opd) (y : Opd) (sz : Nat) (g : Opd → AV) (ob : Nat → Option Node) (m : Nat) : Option Ev :=
    storeV ob sz (g x) (g y)
def kI_box (x : Opd) (g : Opd → AV) (ob : Nat → Option Node) (m : Nat) : Option Ev :=
    if (g x).cells.all AV.one then some ⟨.ptr m (g x).cells.length 0 0, [], [(m, some (nodeOf (g x).cells.length [(g x).cells]))], [m]⟩ else none
def kI_alloc (zs : List AV) (g : Opd → AV) (ob : Nat → Option Node) (m : Nat) : Option Ev :=
    some ⟨.ptr m zs.length 0 0, [], [(m, some (nodeOf zs.length [zs]))], [m]⟩
def kI_bsl (sz : Nat) (zs : List AV) (n : Nat) (parts : List (Nat × Nat × Opd)) (g : Opd → AV) (ob : Nat → Option Node) (m : Nat) : Option Ev :=
    (buildV g (List.replicate n zs).flatten parts).bind fun cs => some ⟨.sl m sz 0 n, [], [(m, some (nodeOf sz (chunk sz n cs)))], [m]⟩
def kI_app (x : Opd) (y : Opd) (sz : Nat) (bytes : Nat) (g : Opd → AV) (ob : Nat → Option Node) (m : Nat) : Option Ev :=
    appV ob m sz bytes (g x) (g y)
def kI_mm (mx : Bool) (x : Opd) (y : Opd) (g : Opd → AV) (ob : Nat → Option Node) (m : Nat) : Option Ev :=
    match g x, g y with
    | .sc (.int k a), .sc (.int _ b) => pEv (.sc (.int k (if mx then (if b > a then b else a) else (if b < a then b else a))))
    | _, _ => none
def kI_mksl (sz : Nat) (zs : List AV) (bytes : Nat) (l : Opd) (c : Opd) (g : Opd → AV) (ob : Nat → Option Node) (m : Nat) : Option Ev :=
    match g l, g c with
    | .sc (.int _ a), .sc (.int _ b) => if 0 ≤ a ∧ a ≤ b ∧ (bytes : Int) * b ≤ 281474976710656 ∧ b ≤ 9223372036854775807 then some ⟨.sl m sz 0 a.toNat, [], [(m, some (nodeOf sz (List.replicate a.toNat zs)))], [m]⟩ else none
    | _, _ => none
def kI_ex (x : X) (g : Opd → AV) (ob : Nat → Option Node) (m : Nat) : Option Ev :=
    x.evK g ob m
def I.evK (i : I) (g : Opd → AV) (ob : Nat → Option Node) (m : Nat) : Option Ev :=
  @I.casesOn (fun _ => Option Ev) i (fun x0 => kI_mv x0 g ob m) (fun x0 x1 x2 => kI_pick x0 x1 x2 g ob m) (fun x0 x1 x2 => kI_load x0 x1 x2 g ob m) (fun x0 x1 => kI_fld x0 x1 g ob m) (fun x0 x1 x2 => kI_idx x0 x1 x2 g ob m) (fun x0 x1 => kI_len x0 x1 g ob m) (fun x0 => kI_nilck x0 g ob m) (fun x0 x1 x2 => kI_bin x0 x1 x2 g ob m) (fun x0 x1 x2 x3 x4 => kI_eqs x0 x1 x2 x3 x4 g ob m) (fun x0 x1 => kI_eqnil x0 x1 g ob m) (fun x0 x1 => kI_un x0 x1 g ob m) (fun x0 x1 => kI_conv x0 x1 g ob m) (fun x0 x1 => kI_ext x0 x1 g ob m) (fun x0 x1 x2 => kI_mkfn x0 x1 x2 g ob m) (fun x0 x1 => kI_build x0 x1 g ob m) (fun x0 x1 x2 x3 => kI_slc x0 x1 x2 x3 g ob m) (fun x0 x1 x2 => kI_sslc x0 x1 x2 g ob m) (fun x0 x1 => kI_sidx x0 x1 g ob m) (fun x0 x1 x2 => kI_store x0 x1 x2 g ob m) (fun x0 => kI_box x0 g ob m) (fun x0 => kI_alloc x0 g ob m) (fun x0 x1 x2 x3 => kI_bsl x0 x1 x2 x3 g ob m) (fun x0 x1 x2 x3 => kI_app x0 x1 x2 x3 g ob m) (fun x0 x1 x2 => kI_mm x0 x1 x2 g ob m) (fun x0 x1 x2 x3 x4 => kI_mksl x0 x1 x2 x3 x4 g ob m) none (fun x0 => kI_ex x0 g ob m) (fun x0 x1 => none) (fun x0 x1 => none)
theorem I.evK_eq (i : I) (g : Opd → AV) (ob : Nat → Option Node) (m : Nat) : i.evK g ob m = i.eval g ob m := by
  cases i with
  | ex x => exact X.evK_eq x g ob m
  | _ => rfl
/-- A call by name, a call of a value, another operation. -/
def I.kind (γ : Type) (i : I) (nm : FuncId → List Opd → γ) (vl : Opd → List Opd → γ) (ot : γ) : γ :=
  @I.casesOn (fun _ => γ) i (fun x0 => ot) (fun x0 x1 x2 => ot) (fun x0 x1 x2 => ot) (fun x0 x1 => ot) (fun x0 x1 x2 => ot) (fun x0 x1 => ot) (fun x0 => ot) (fun x0 x1 x2 => ot) (fun x0 x1 x2 x3 x4 => ot) (fun x0 x1 => ot) (fun x0 x1 => ot) (fun x0 x1 => ot) (fun x0 x1 => ot) (fun x0 x1 x2 => ot) (fun x0 x1 => ot) (fun x0 x1 x2 x3 => ot) (fun x0 x1 x2 => ot) (fun x0 x1 => ot) (fun x0 x1 x2 => ot) (fun x0 => ot) (fun x0 => ot) (fun x0 x1 x2 x3 => ot) (fun x0 x1 x2 x3 => ot) (fun x0 x1 x2 => ot) (fun x0 x1 x2 x3 x4 => ot) ot (fun x0 => ot) nm vl
def findK (e : List (Nat × AV)) (t : Nat) : Option AV := @List.rec (Nat × AV) (fun _ => Option AV) none (fun p _ r => @Bool.rec (fun _ => Option AV) r (some p.2) (Nat.beq t p.1)) e
def addK (t : Nat) (v : Option AV) (r : List (Nat × AV)) : List (Nat × AV) := @Option.rec AV (fun _ => List (Nat × AV)) r (fun v => (t, v) :: r) v
def keepK (live : List Nat) (e : List (Nat × AV)) : List (Nat × AV) := @List.rec Nat (fun _ => List (Nat × AV)) [] (fun t _ r => addK t (findK e t) r) live
theorem findK_eq (e : List (Nat × AV)) (t : Nat) : findK e t = e.lookup t := by
  induction e with
  | nil => rfl
  | cons p l ih =>
    obtain ⟨q, v⟩ := p
    have : Nat.beq t q = (t == q) := by rw [Bool.eq_iff_iff]; simp
    show @Bool.rec (fun _ => Option AV) (findK l t) (some v) (Nat.beq t q) = _
    rw [List.lookup_cons, this, ih]
    cases t == q <;> rfl
theorem keepK_eq (live : List Nat) (e : List (Nat × AV)) : keepK live e = keepEnv live e := by
  induction live with
  | nil => rfl
  | cons t l ih =>
    show addK t (findK e t) (keepK l e) = _
    rw [findK_eq, ih]
    simp only [keepEnv, List.filterMap_cons]
    cases e.lookup t <;> rfl

def CS.keepK (s : CS) (live : List Nat) : CS := ⟨Go.Proofs.YtbmlhmgldipnhabGreatE.keepK live s.env, s.tr, s.nx⟩
theorem CS.keepK_eq (s : CS) (live : List Nat) : s.keepK live = s.keep live := by
  unfold CS.keepK CS.keep
  rw [Go.Proofs.YtbmlhmgldipnhabGreatE.keepK_eq]

def andThenO {α β : Type} (o : Option α) (k : α → Option β) : Option β := @Option.rec α (fun _ => Option β) none k o
def orElseO {α β : Type} (o : Option α) (k : α → β) (z : β) : β := @Option.rec α (fun _ => β) z k o

section
variable (T : FT) (B : Nat → List AV → Option AV)

def resK (s : CS) (d : Option Nat) (tr : Tr) (nx : Nat) (vs : List AV) : Option CS := some ⟨match d with | some d => (d, tupOf vs) :: s.env | none => s.env, tr, nx⟩
def resK2 (s s' : CS) (d : Option Nat) (ts : List RS) : Option CS := andThenO (cvRess (s'.res ts).tr.get s'.env ts) (resK s d (s'.res ts).tr s'.nx)
def resK1 (fi : FI) (n : Nat) (s : CS) (d : Option Nat) (p : Exit × CS) : Option CS :=
  bif doneC p.1 && Nat.ble n fi.n then orElseO (cvRess p.2.tr.get p.2.env fi.ts) (resK s d p.2.tr p.2.nx) (resK2 s p.2 d fi.ts) else none
def callK2 (run : CI → CS → Option (Exit × CS)) (args : List AV) (s : CS) (d : Option Nat) (fi : FI) : Option CS := andThenO (run fi.ci ⟨argEnv 0 args, s.tr, s.nx⟩) (resK1 fi args.length s d)
def callK1 (args : List AV) (s : CS) (d : Option Nat) (v : AV) : Option CS := bif namess [] args && v.still then some ⟨match d with | some d => (d, v) :: s.env | none => s.env, s.tr, s.nx⟩ else none
def callK (run : CI → CS → Option (Exit × CS)) (f : Nat) (args : List AV) (s : CS) (d : Option Nat) : Option CS :=
  orElseO (B f args) (callK1 args s d) (andThenO (T.get f) (callK2 run args s d))
theorem callK_eq (run : CI → CS → Option (Exit × CS)) (f : Nat) (args : List AV) (s : CS) (d : Option Nat) : callK T B run f args s d = callC T B run f args s d := by
  unfold callK callC
  cases B f args with
  | some v => rfl
  | none =>
    cases T.get f with
    | none => rfl
    | some fi =>
      show callK2 run args s d fi = _
      unfold callK2
      simp only
      cases hr : run fi.ci ⟨argEnv 0 args, s.tr, s.nx⟩ with
      | none => rfl
      | some p =>
        obtain ⟨e, s'⟩ := p
        show resK1 fi args.length s d (e, s') = _
        unfold resK1
        simp only
        cases (doneC e && Nat.ble args.length fi.n) with
        | false => rfl
        | true =>
          simp only [cond_true]
          cases cvRess s'.tr.get s'.env fi.ts with
          | some vs => rfl
          | none =>
            show resK2 s s' d fi.ts = _
            unfold resK2
            simp only
            cases cvRess (s'.res fi.ts).tr.get s'.env fi.ts <;> rfl

def item4 (it : It) (s : CS) (k : CS → Option CS) : Option CS := andThenO (it.i.evK s.get ((s.fix it.i).any it.i).tr.get s.nx) fun ev => k (((s.fix it.i).any it.i).app it.d ev)
def item3 (it : It) (s : CS) (k : CS → Option CS) : Option CS := orElseO (it.i.evK s.get (s.fix it.i).tr.get s.nx) (fun ev => k ((s.fix it.i).app it.d ev)) (item4 it s k)
def item2 (it : It) (s : CS) (k : CS → Option CS) : Option CS := orElseO (it.i.evK s.get s.tr.get s.nx) (fun ev => k (s.app it.d ev)) (item3 it s k)
def itemV (run : CI → CS → Option (Exit × CS)) (it : It) (s : CS) (k : CS → Option CS) (xs : List Opd) (v : AV) : Option CS :=
  match v with
  | .fn f a1 c1 => bif (T.get f).isSome then andThenO (callK T B run f (a1 ++ xs.map s.get ++ c1) s it.d) k else none
  | _ => none
def item1 (run : CI → CS → Option (Exit × CS)) (it : It) (s : CS) (k : CS → Option CS) : Option CS :=
  it.i.kind (Option CS) (fun f xs => andThenO (callK T B run f (xs.map s.get) s it.d) k) (fun x xs => itemV T B run it s k xs (s.get x)) (item2 it s k)
def item0 (run : CI → CS → Option (Exit × CS)) (it : It) (s : CS) (k : CS → Option CS) (b : Bool) : Option CS := @Bool.rec (fun _ => Option CS) (k (s.app it.d skipEv)) (item1 T B run it s k) b
def itemK (run : CI → CS → Option (Exit × CS)) (it : It) (k : CS → Option CS) (s : CS) : Option CS := andThenO (runsC s it.g) (item0 T B run it s k)
def itemsK (run : CI → CS → Option (Exit × CS)) (its : List It) : CS → Option CS := @List.rec It (fun _ => CS → Option CS) (fun s => some s) (fun it _ k => itemK T B run it k) its

theorem itemsK_eq (run : CI → CS → Option (Exit × CS)) : ∀ (its : List It) (s : CS), itemsK T B run its s = itemsC T B run its s
  | [], s => rfl
  | it :: its, s => by
    have ih := itemsK_eq run its
    have ih' : itemsK T B run its = itemsC T B run its := funext ih
    show itemK T B run it (itemsK T B run its) s = _
    rw [ih']
    unfold itemK itemsC
    cases runsC s it.g with
    | none => rfl
    | some b =>
      cases b with
      | false => rfl
      | true =>
        show item1 T B run it s (itemsC T B run its) = _
        unfold item1
        have oth : item2 it s (itemsC T B run its) = (match it.i.eval s.get s.tr.get s.nx with
          | some ev => itemsC T B run its (s.app it.d ev)
          | none => match it.i.eval s.get (s.fix it.i).tr.get s.nx with
            | some ev => itemsC T B run its ((s.fix it.i).app it.d ev)
            | none => match it.i.eval s.get ((s.fix it.i).any it.i).tr.get s.nx with
              | some ev => itemsC T B run its (((s.fix it.i).any it.i).app it.d ev)
              | none => none) := by
          unfold item2 item3 item4
          simp only [I.evK_eq]
          cases it.i.eval s.get s.tr.get s.nx with
          | some ev => rfl
          | none =>
            show orElseO (it.i.eval s.get (s.fix it.i).tr.get s.nx) _ _ = _
            simp only
            cases it.i.eval s.get (s.fix it.i).tr.get s.nx with
            | some ev => rfl
            | none =>
              show andThenO (it.i.eval s.get ((s.fix it.i).any it.i).tr.get s.nx) _ = _
              simp only
              cases it.i.eval s.get ((s.fix it.i).any it.i).tr.get s.nx <;> rfl
        rw [oth]
        generalize hi : it.i = i
        cases i with
        | call f xs =>
          show andThenO (callK T B run f (xs.map s.get) s it.d) (itemsC T B run its) = _
          rw [callK_eq]
          simp only
          cases callC T B run f (xs.map s.get) s it.d <;> rfl
        | callv x xs =>
          show itemV T B run it s (itemsC T B run its) xs (s.get x) = _
          unfold itemV
          simp only
          cases s.get x with
          | fn f a1 c1 =>
            simp only
            cases (T.get f).isSome with
            | false => rfl
            | true =>
              simp only [cond_true, callK_eq]
              cases callC T B run f (a1 ++ xs.map s.get ++ c1) s it.d <;> rfl
          | _ => rfl
        | _ => rfl

def exK (b : CI) (run : CI → CS → Option (Exit × CS)) (p : Exit × CS) : Option (Exit × CS) :=
  match p.1 with
  | .normal => run b p.2
  | _ => some p
def blK (id : Nat) (p : Exit × CS) : Option (Exit × CS) :=
  match p.1 with
  | .exit id' => bif Nat.beq id' id then some (.normal, p.2) else some (.exit id', p.2)
  | _ => some p
def coK (run : CI → CS → Option (Exit × CS)) (a b : CI) (s : CS) (v : AV) : Option (Exit × CS) :=
  match v with
  | .sc (.bool true) => run a s
  | .sc (.bool false) => run b s
  | _ => none
def rgK (run : CI → CS → Option (Exit × CS)) (its : List It) (live : List Nat) (s : CS) : Option (Exit × CS) := andThenO (itemsK T B run its s) fun s' => some (.normal, s'.keepK live)
def drK (run : CI → CS → Option (Exit × CS)) (its : List It) (live : List Nat) (s : CS) : Option (Exit × CS) := andThenO (runSeg T B run its 0 (cutList its) s) fun s' => some (.normal, s'.keepK live)
def stK (run : CI → CS → Option (Exit × CS)) (c : CI) (s : CS) : Option (Exit × CS) :=
  @CI.casesOn (fun _ => Option (Exit × CS)) c (some (.normal, s)) (fun id => some (.exit id, s)) (some (.ret, s)) (fun its live => rgK T B run its live s) (fun its live => drK T B run its live s)
    (fun a b => andThenO (run a s) (exK b run)) (fun c a b => coK run a b s (s.get c)) (fun id c => andThenO (run c s) (blK id)) (fun c => andThenO (run c s) (exK (.loop c) run))
def evK (n : Nat) : CI → CS → Option (Exit × CS) := @Nat.rec (fun _ => CI → CS → Option (Exit × CS)) (fun _ _ => none) (fun _ run => stK T B run) n

theorem evK_eq : ∀ (n : Nat), evK T B n = evN T B n
  | 0 => rfl
  | n + 1 => by
    have ih := evK_eq n
    funext c s
    show stK T B (evK T B n) c s = _
    rw [ih]
    unfold stK
    cases c with
    | reg its live =>
      show rgK T B (evN T B n) its live s = _
      unfold rgK
      simp only [evN, itemsK_eq]
      cases itemsC T B (evN T B n) its s with
      | none => rfl
      | some s' => show some (Exit.normal, s'.keepK live) = _; rw [CS.keepK_eq]
    | drw its live =>
      show drK T B (evN T B n) its live s = _
      unfold drK
      simp only [evN]
      cases runSeg T B (evN T B n) its 0 (cutList its) s with
      | none => rfl
      | some s' => show some (Exit.normal, s'.keepK live) = _; rw [CS.keepK_eq]
    | seq a b =>
      show andThenO (evN T B n a s) (exK b (evN T B n)) = _
      simp only [evN]
      cases evN T B n a s with
      | none => rfl
      | some p => obtain ⟨e, s'⟩ := p; cases e <;> rfl
    | cond c a b =>
      show coK (evN T B n) a b s (s.get c) = _
      simp only [evN]
      unfold coK
      cases s.get c with
      | sc u => cases u with
        | bool t => cases t <;> rfl
        | _ => rfl
      | _ => rfl
    | block id c =>
      show andThenO (evN T B n c s) (blK id) = _
      simp only [evN]
      cases evN T B n c s with
      | none => rfl
      | some p => obtain ⟨e, s'⟩ := p; cases e <;> rfl
    | loop c =>
      show andThenO (evN T B n c s) (exK (.loop c) (evN T B n)) = _
      simp only [evN]
      cases evN T B n c s with
      | none => rfl
      | some p => obtain ⟨e, s'⟩ := p; cases e <;> rfl
    | _ => rfl

/-- What a call gives, all written out. -/
def evG (n : Nat) (f : Nat) (args : List AV) : Option AV := pcallC T B (evK T B n) f args
theorem evG_sound {P : Program} {T : FT} {B : Nat → List AV → Option AV} (hT : FTGood P T) (hB : BGood P B) {n f : Nat} {args : List AV} {r : AV} (h : evG T B n f args = some r) : PCall P f args r := by
  unfold evG at h
  rw [evK_eq] at h
  exact evF_sound hT hB (n := n) h
end

end
end Go.Proofs.YtbmlhmgldipnhabGreatE

