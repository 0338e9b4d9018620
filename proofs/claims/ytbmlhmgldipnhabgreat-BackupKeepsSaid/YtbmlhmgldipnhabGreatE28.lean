/-
  The engine, part 28: an evaluator of compiled code over closed states, for the kernel: its definitions.
-/
import Derived.Test.YtbmlhmgldipnhabGreatE27
set_option linter.unusedVariables false
set_option linter.unusedSimpArgs false
namespace Go.Proofs.YtbmlhmgldipnhabGreatE
open Go

/-! ### objects by their names -/
inductive Tr where
  | lf
  | nd (v : Option Node) (l r : Tr)
  deriving Inhabited

def Tr.get : Tr → Nat → Option Node
  | .lf, _ => none
  | .nd v l r, k => bif Nat.beq k 0 then v else bif Nat.beq (k % 2) 1 then l.get (k / 2) else r.get (k / 2 - 1)

def Tr.set : Nat → Tr → Nat → Option Node → Tr
  | 0, t, _, _ => t
  | n + 1, .lf, k, x => bif Nat.beq k 0 then .nd x .lf .lf else bif Nat.beq (k % 2) 1 then .nd none (Tr.set n .lf (k / 2) x) .lf else .nd none .lf (Tr.set n .lf (k / 2 - 1) x)
  | n + 1, .nd v l r, k, x => bif Nat.beq k 0 then .nd x l r else bif Nat.beq (k % 2) 1 then .nd v (Tr.set n l (k / 2) x) r else .nd v l (Tr.set n r (k / 2 - 1) x)

theorem Tr.get_lf (k : Nat) : Tr.lf.get k = none := rfl

theorem odd_parts {k : Nat} (h0 : k ≠ 0) (h : k % 2 = 1) {j : Nat} (hj0 : j ≠ 0) (hj : j % 2 = 1) : (j / 2 = k / 2) ↔ j = k := by omega
theorem even_parts {k : Nat} (h0 : k ≠ 0) (h : k % 2 ≠ 1) {j : Nat} (hj0 : j ≠ 0) (hj : j % 2 ≠ 1) : (j / 2 - 1 = k / 2 - 1) ↔ j = k := by omega

theorem Tr.get_set : ∀ (n : Nat) (t : Tr) (k j : Nat) (x : Option Node), k < n → (Tr.set n t k x).get j = if j = k then x else t.get j
  | 0, t, k, j, x, h => by simp at h
  | n + 1, t, k, j, x, h => by
    have hb : ∀ a b : Nat, Nat.beq a b = decide (a = b) := fun a b => by rw [Bool.eq_iff_iff]; simp
    have h1 : k ≠ 0 → k % 2 = 1 → k / 2 < n := fun a b => by omega
    have h2 : k ≠ 0 → k % 2 ≠ 1 → k / 2 - 1 < n := fun a b => by omega
    cases t with
    | lf =>
      simp only [Tr.set, hb]
      by_cases e : k = 0
      · subst e
        simp only [decide_true, cond_true, Tr.get, hb]
        by_cases e' : j = 0 <;> simp [e', Tr.get]
      · by_cases e2 : k % 2 = 1
        · simp only [e, decide_false, cond_false, e2, decide_true, cond_true, Tr.get, hb]
          by_cases e3 : j = 0
          · simp [e3, Ne.symm e]
          · by_cases e4 : j % 2 = 1
            · simp only [e3, e4, decide_false, decide_true, cond_false, cond_true, Tr.get_set n _ _ _ _ (h1 e e2), odd_parts e e2 e3 e4, Tr.get_lf]
            · have : j ≠ k := fun h' => e4 (by rw [h']; exact e2)
              simp [e3, e4, this]
        · simp only [e, decide_false, cond_false, e2, Tr.get, hb]
          by_cases e3 : j = 0
          · simp [e3, Ne.symm e]
          · by_cases e4 : j % 2 = 1
            · have : j ≠ k := fun h' => e2 (by rw [← h']; exact e4)
              simp [e3, e4, this]
            · simp only [e3, e4, decide_false, cond_false, Tr.get_set n _ _ _ _ (h2 e e2), even_parts e e2 e3 e4, Tr.get_lf]
    | nd v l r =>
      simp only [Tr.set, hb]
      by_cases e : k = 0
      · subst e
        simp only [decide_true, cond_true, Tr.get, hb]
        by_cases e' : j = 0 <;> simp [e']
      · by_cases e2 : k % 2 = 1
        · simp only [e, decide_false, cond_false, e2, decide_true, cond_true, Tr.get, hb]
          by_cases e3 : j = 0
          · simp [e3, Ne.symm e]
          · by_cases e4 : j % 2 = 1
            · simp only [e3, e4, decide_false, decide_true, cond_false, cond_true, Tr.get_set n _ _ _ _ (h1 e e2), odd_parts e e2 e3 e4]
            · have : j ≠ k := fun h' => e4 (by rw [h']; exact e2)
              simp [e3, e4, this]
        · simp only [e, decide_false, cond_false, e2, Tr.get, hb]
          by_cases e3 : j = 0
          · simp [e3, Ne.symm e]
          · by_cases e4 : j % 2 = 1
            · have : j ≠ k := fun h' => e2 (by rw [← h']; exact e4)
              simp [e3, e4, this]
            · simp only [e3, e4, decide_false, cond_false, Tr.get_set n _ _ _ _ (h2 e e2), even_parts e e2 e3 e4]

/-! ### states -/
structure CS where
  env : List (Nat × AV)
  tr : Tr
  nx : Nat
  deriving Inhabited

def lk : List (Nat × AV) → Nat → AV
  | [], _ => .dead
  | p :: l, k => bif Nat.beq k p.1 then p.2 else lk l k
theorem lk_eq (l : List (Nat × AV)) (k : Nat) : lk l k = (l.lookup k).getD .dead := by
  induction l with
  | nil => rfl
  | cons p l ih =>
    obtain ⟨q, v⟩ := p
    have : Nat.beq k q = (k == q) := by rw [Bool.eq_iff_iff]; simp
    simp only [lk, List.lookup_cons, this]
    cases k == q <;> simp [ih]

def CS.get (s : CS) : Opd → AV
  | .t n => lk s.env n
  | .k v => v

def setAll (t : Tr) : List (Nat × Option Node) → Tr
  | [] => t
  | p :: l => Tr.set (p.1 + 1) (setAll t l) p.1 p.2

def CS.app (s : CS) (d : Option Nat) (e : Ev) : CS :=
  ⟨match d with | some d => (d, e.v) :: s.env | none => s.env, setAll s.tr e.U, match e.C with | [] => s.nx | _ => s.nx + 1⟩

/-- The same, the next name passed by. -/
def CS.appD (s : CS) (d : Option Nat) (e : Ev) : CS :=
  ⟨match d with | some d => (d, e.v) :: s.env | none => s.env, setAll s.tr e.U, s.nx + 1⟩

def CS.keep (s : CS) (live : List Nat) : CS := { s with env := keepEnv live s.env }

/-! ### functions -/
structure FI where
  n : Nat
  ci : CI
  ts : List RS
  deriving Inhabited
inductive FT where
  | lf
  | br (k : Nat) (fi : FI) (l r : FT)
  deriving Inhabited
def FT.get : FT → Nat → Option FI
  | .lf, _ => none
  | .br k fi l r, f => bif Nat.beq k f then some fi else bif Nat.blt f k then l.get f else r.get f

/-- All that is reached, written out. -/
def fzA (ob : Nat → Option Node) : Nat → AV → AV
  | 0, v => v
  | n + 1, .sl k sz i len => match ob k with
    | some (.row z es) => if z = sz ∧ i + len ≤ es.length then .fsl sz ((es.drop i).take len) else .sl k sz i len
    | some (.arow z es) => if z = sz ∧ i + len ≤ es.length ∧ (((es.drop i).take len).map fun e => e.map (fzA ob n)).all (fun e => frees e && e.length == sz) = true then .fsl sz (((es.drop i).take len).map fun e => e.map (fzA ob n)) else .sl k sz i len
    | _ => .sl k sz i len
  | n + 1, .ptr k sz i off => match ob k with
    | some (.row z es) => if z = sz then match es[i]? with
      | some e => .fp (e.drop off)
      | none => .ptr k sz i off
      else .ptr k sz i off
    | some (.arow z es) => if z = sz then match es[i]? with
      | some e => if frees ((e.drop off).map (fzA ob n)) then .fp ((e.drop off).map (fzA ob n)) else .ptr k sz i off
      | none => .ptr k sz i off
      else .ptr k sz i off
    | _ => .ptr k sz i off
  | n + 1, .agg cs => .agg (cs.map (fzA ob n))
  | n + 1, .fn f a b => .fn f (a.map (fzA ob n)) (b.map (fzA ob n))
  | _ + 1, v => v

/-- The names that 'fzA' comes to. -/
def nmA (ob : Nat → Option Node) : Nat → AV → List Nat
  | 0, v => []
  | n + 1, .sl k sz i len => k :: match ob k with
    | some (.arow z es) => es.flatMap fun e => e.flatMap (nmA ob n)
    | _ => []
  | n + 1, .ptr k sz i off => k :: match ob k with
    | some (.arow z es) => match es[i]? with
      | some e => e.flatMap (nmA ob n)
      | none => []
    | _ => []
  | n + 1, .agg cs => cs.flatMap (nmA ob n)
  | n + 1, .fn f a b => a.flatMap (nmA ob n) ++ b.flatMap (nmA ob n)
  | _ + 1, v => []

def cvRes (ob : Nat → Option Node) (env : List (Nat × AV)) : RS → Option AV
  | .slot t => some (lk env t)
  | .cell t sz ag => (loadV ob sz ag (lk env t)).map Ev.v
def cvRess (ob : Nat → Option Node) (env : List (Nat × AV)) : List RS → Option (List AV)
  | [] => some []
  | t :: ts => match cvRes ob env t with
    | some v => match cvRess ob env ts with
      | some vs => some (v :: vs)
      | none => none
    | none => none
def tupOf : List AV → AV
  | [v] => v
  | vs => .tup vs

/-- Objects looked at as the values that name them want it. -/
def fixV (t : Tr) : AV → Tr
  | .ptr k z _ _ | .sl k z _ _ => match t.get k with
    | some nd => match nd.view z with
      | some nd' => Tr.set (k + 1) t k (some nd')
      | none => t
    | none => t
  | _ => t
def fixVs (t : Tr) : List AV → Tr
  | [] => t
  | v :: vs => fixVs (fixV t v) vs
/-- Objects whose cells may name objects. -/
def anyV (t : Tr) : AV → Tr
  | .ptr k z _ _ | .sl k z _ _ => match t.get k with
    | some (.row z' (e :: es)) => Tr.set (k + 1) t k (some (.arow z' (e :: es)))
    | _ => t
  | _ => t
def anyVs (t : Tr) : List AV → Tr
  | [] => t
  | v :: vs => anyVs (anyV t v) vs
def CS.any (s : CS) (i : I) : CS := { s with tr := anyVs s.tr (i.opds.map s.get) }
def CS.fix (s : CS) (i : I) : CS := { s with tr := fixVs s.tr (i.opds.map s.get) }

def Tr.mapN (f : Node → Node) : Tr → Tr
  | .lf => .lf
  | .nd v l r => .nd (v.map f) (l.mapN f) (r.mapN f)
/-- Objects frozen for good. -/
def CS.fzT (s : CS) (L : List Nat) : CS := ⟨s.env.map fun p => (p.1, fzV s.tr.get L 12 p.2), setAll (s.tr.mapN (fzN s.tr.get L 12)) (L.map fun k => (k, none)), s.nx⟩

/-- The objects of which a region cuts slices, as rows of such elements. -/
def cutsOf (s : CS) : List It → List AV
  | [] => []
  | it :: its => match it.i with
    | .ex (.aslc _ sz x _ _) => match s.get x with
      | .ptr k _ _ _ => .sl k sz 0 0 :: cutsOf s its
      | _ => cutsOf s its
    | _ => cutsOf s its
def CS.cuts (s : CS) (its : List It) : CS := { s with tr := fixVs s.tr (cutsOf s its) }
def CS.anyE (s : CS) : CS := { s with tr := anyVs s.tr (s.env.map (·.2)) }

def runsC (s : CS) : Option (Nat × Bool) → Option Bool
  | none => some true
  | some (t, b) => match lk s.env t with
    | .sc (.bool c) => some (c == b)
    | .tup [] => some false
    | _ => none

def doneC : Exit → Bool
  | .ret | .normal => true
  | _ => false

section
variable (T : FT) (B : Nat → List AV → Option AV)

/-- The objects in which results stand, as they are read. -/
def CS.res (s : CS) (ts : List RS) : CS := { s with tr := fixVs s.tr (ts.map fun t => match t with | .slot t => lk s.env t | .cell t _ _ => lk s.env t) }

/-- A call on the very objects of the caller. -/
def callC (run : CI → CS → Option (Exit × CS)) (f : Nat) (args : List AV) (s : CS) (d : Option Nat) : Option CS :=
  match B f args with
  | some v => bif namess [] args && v.still then some ⟨match d with | some d => (d, v) :: s.env | none => s.env, s.tr, s.nx⟩ else none
  | none => match T.get f with
    | some fi => match run fi.ci ⟨argEnv 0 args, s.tr, s.nx⟩ with
      | some (e, s') => bif doneC e && Nat.ble args.length fi.n then match cvRess s'.tr.get s'.env fi.ts with
        | some vs => some ⟨match d with | some d => (d, tupOf vs) :: s.env | none => s.env, s'.tr, s'.nx⟩
        | none => match cvRess (s'.res fi.ts).tr.get s'.env fi.ts with
          | some vs => some ⟨match d with | some d => (d, tupOf vs) :: s.env | none => s.env, (s'.res fi.ts).tr, s'.nx⟩
          | none => none else none
      | none => none
    | none => none

def itemsC (run : CI → CS → Option (Exit × CS)) : List It → CS → Option CS
  | [], s => some s
  | it :: its, s => match runsC s it.g with
    | some true => match it.i with
      | .call f xs => match callC T B run f (xs.map s.get) s it.d with
        | some s' => itemsC run its s'
        | none => none
      | .callv x xs => match s.get x with
        | .fn f as cs => bif (T.get f).isSome then match callC T B run f (as ++ xs.map s.get ++ cs) s it.d with
          | some s' => itemsC run its s'
          | none => none else none
        | _ => none
      | i => match i.eval s.get s.tr.get s.nx with
        | some ev => itemsC run its (s.app it.d ev)
        | none => match i.eval s.get (s.fix i).tr.get s.nx with
          | some ev => itemsC run its ((s.fix i).app it.d ev)
          | none => match i.eval s.get ((s.fix i).any i).tr.get s.nx with
            | some ev => itemsC run its (((s.fix i).any i).app it.d ev)
            | none => none
    | some false => itemsC run its (s.app it.d skipEv)
    | none => none

/-- A result that is one new slice. -/
def ownC (s : CS) : List RS → Option AV
  | [.slot t] => match lk s.env t with
    | .sl k sz 0 len => match s.tr.get k with
      | some (.row z es) => if z = sz ∧ es.length = len ∧ es.all (·.all AV.plain) = true then some (.own sz es) else none
      | some (.arow z es) => if z = sz ∧ es.length = len ∧ (es.map (·.map (fzA (fun j => bif Nat.beq j k then none else s.tr.get j) 12))).all (·.all AV.plain) = true then some (.own sz (es.map (·.map (fzA (fun j => bif Nat.beq j k then none else s.tr.get j) 12)))) else none
      | _ => none
    | _ => none
  | _ => none

/-- A call of its own: the arguments written out, the result too. -/
def pcallC (run : CI → CS → Option (Exit × CS)) (f : Nat) (args : List AV) : Option AV :=
  match B f args with
  | some v => bif v.still then some v else none
  | none => match T.get f with
    | some fi => match run fi.ci ⟨argEnv 0 args, .lf, 100⟩ with
      | some (e, s0) => bif doneC e && Nat.ble args.length fi.n then
          let s' := s0.res fi.ts
          match ownC s' fi.ts with
        | some r => some r
        | none => match cvRess (fun _ => none) (s'.env.map fun p => (p.1, fzA s'.tr.get 12 p.2)) fi.ts with
        | some vs => bif (tupOf vs).still then some (tupOf vs) else none
        | none => none else none
      | none => none
    | none => none

/-- A call that is handed objects whose cells name none. -/
def lcallC (run : CI → CS → Option (Exit × CS)) (f : Nat) (vs : List AV) (s : CS) : Option Ev :=
  let pre := ((vs.flatMap (nmA s.tr.get 12)).eraseDups).filterMap fun k => (s.tr.get k).map fun nd => (k, nd)
  bif pre.all (fun p => p.2.isRow && Nat.blt p.1 s.nx) && namess (keys pre) vs then match T.get f with
    | some fi => match run fi.ci ⟨argEnv 0 vs, setAll .lf (pre.map fun p => (p.1, some p.2)), s.nx⟩ with
      | some (e, s') => bif doneC e && Nat.ble vs.length fi.n then match cvRess s'.tr.get s'.env fi.ts with
        | some us =>
          let post := pre.filterMap fun p => (s'.tr.get p.1).map fun nd => (p.1, nd)
          bif (tupOf us).still && post.all (fun p => p.2.isRow) then some (callEv s.nx (tupOf us) pre post (keys pre)) else none
        | none => none else none
      | none => none
    | none => none
  else none

def dcallC (run : CI → CS → Option (Exit × CS)) (f : Nat) (vs : List AV) (s : CS) : Option Ev :=
  let F := vs.flatMap (nmA s.tr.get 12)
  let args := vs.map (fzV s.tr.get F 12)
  match pcallC T B run f args with
  | some r => bif (F.isEmpty || r.noF) && namess [] args then some (callEv s.nx r [] [] F) else lcallC T run f vs s
  | none => lcallC T run f vs s

def itemsD (run : CI → CS → Option (Exit × CS)) : List It → List (It × Ev) → CS → Option (List (It × Ev) × CS)
  | [], acc, s => some (acc, s)
  | it :: its, acc, s => match runsC s it.g with
    | some true => match it.i with
      | .call f xs => match dcallC T B run f (xs.map s.get) s with
        | some ev => itemsD run its (({ it with m := s.nx }, ev) :: acc) (s.appD it.d ev)
        | none => none
      | .callv x xs => match s.get x with
        | .fn f as cs => bif (T.get f).isSome then match dcallC T B run f (as ++ xs.map s.get ++ cs) s with
          | some ev => itemsD run its (({ it with m := s.nx }, ev) :: acc) (s.appD it.d ev)
          | none => none else none
        | _ => none
      | i => match i.eval s.get s.tr.get s.nx with
        | some ev => itemsD run its (({ it with m := s.nx }, ev) :: acc) (s.appD it.d ev)
        | none => none
    | some false => itemsD run its (({ it with m := s.nx }, skipEv) :: acc) (s.appD it.d skipEv)
    | none => none

def runD (run : CI → CS → Option (Exit × CS)) (p : Nat) (its : List It) (s : CS) : Option CS :=
  match itemsD T B run its [] s with
  | some (acc, s') => bif apartAll p acc.reverse then some s' else none
  | none => none

/-- The objects that the first call reaches that can't be carried out with them standing still for a while. -/
def needD (run : CI → CS → Option (Exit × CS)) : List It → CS → List Nat
  | [], s => []
  | it :: its, s => match runsC s it.g with
    | some true => match it.i with
      | .call f xs => match dcallC T B run f (xs.map s.get) s with
        | some ev => needD run its (s.appD it.d ev)
        | none => (xs.map s.get).flatMap (nmA s.tr.get 12)
      | .callv x xs => match s.get x with
        | .fn f as cs => match dcallC T B run f (as ++ xs.map s.get ++ cs) s with
          | some ev => needD run its (s.appD it.d ev)
          | none => (as ++ xs.map s.get ++ cs).flatMap (nmA s.tr.get 12)
        | _ => []
      | i => match i.eval s.get s.tr.get s.nx with
        | some ev => needD run its (s.appD it.d ev)
        | none => []
    | some false => needD run its (s.appD it.d skipEv)
    | none => []

/-- All operations from c on wait for all ahead of c. -/
def cutAt (its : List It) (c : Nat) : Bool := (its.drop c).all fun it => (List.range c).all fun x => it.a.contains x
def cutList (its : List It) : List Nat := (List.range its.length).filterMap fun c => bif cutAt its (c + 1) then some (c + 1) else none

/-- A region, part by part: a part of one operation as code, one of more in whatever order. -/
def runSeg (run : CI → CS → Option (Exit × CS)) (its : List It) : Nat → List Nat → CS → Option CS
  | p, [], s => bif Nat.beq p its.length then some s else none
  | p, q :: qs, s => bif Nat.beq q (p + 1) then match itemsC T B run ((its.drop p).take 1) s with
      | some s' => runSeg run its q qs s'
      | none => none
    else bif Nat.ble p q && Nat.ble q its.length then match runD T B run p ((its.drop p).take (q - p)) s with
      | some s' => runSeg run its q qs s'
      | none => match runD T B run p ((its.drop p).take (q - p)) (s.cuts ((its.drop p).take (q - p))) with
        | some s' => runSeg run its q qs s'
        | none => match runD T B run p ((its.drop p).take (q - p)) (s.cuts ((its.drop p).take (q - p))).anyE with
          | some s' => runSeg run its q qs s'
          | none => match runD T B run p ((its.drop p).take (q - p)) (s.fzT (needD T B run ((its.drop p).take (q - p)) s)) with
            | some s' => runSeg run its q qs s'
            | none => none
    else none

def evN : Nat → CI → CS → Option (Exit × CS)
  | 0 => fun _ _ => none
  | n + 1 => fun c s => match c with
    | .done => some (.normal, s)
    | .exit id => some (.exit id, s)
    | .ret => some (.ret, s)
    | .reg its live => match itemsC T B (evN n) its s with
      | some s' => some (.normal, s'.keep live)
      | none => none
    | .drw its live => match runSeg T B (evN n) its 0 (cutList its) s with
      | some s' => some (.normal, s'.keep live)
      | none => none
    | .seq a b => match evN n a s with
      | some (.normal, s') => evN n b s'
      | r => r
    | .cond c a b => match s.get c with
      | .sc (.bool true) => evN n a s
      | .sc (.bool false) => evN n b s
      | _ => none
    | .block id c => match evN n c s with
      | some (.exit id', s') => bif Nat.beq id' id then some (.normal, s') else some (.exit id', s')
      | r => r
    | .loop c => match evN n c s with
      | some (.normal, s') => evN n (.loop c) s'
      | r => r

/-- What a call gives, all written out. -/
def evF (n : Nat) (f : Nat) (args : List AV) : Option AV := pcallC T B (evN T B n) f args
end

end Go.Proofs.YtbmlhmgldipnhabGreatE
