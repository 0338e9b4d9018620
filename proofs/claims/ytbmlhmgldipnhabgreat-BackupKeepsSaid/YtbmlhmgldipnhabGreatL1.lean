/-
  What Permute gives, for any five words.
  Conditions: those that each theorem names.
-/
import Derived.Test.YtbmlhmgldipnhabGreatTG
import Derived.Test.YtbmlhmgldipnhabGreatE31
set_option linter.unusedVariables false
set_option linter.unnecessarySimpa false
set_option linter.unusedSimpArgs false
namespace Go.Proofs.YtbmlhmgldipnhabGreatE
open Go
def u (a : Int) : AV := .sc (.int .u64 a)
def w6 (x : Int) : Int := IntKind.wrap .u64 x
def xo (a b : Int) : Int := IntKind.wrap .u64 (BitVec.ofInt (IntKind.bits .u64) a ^^^ BitVec.ofInt (IntKind.bits .u64) b).toNat
def an (a b : Int) : Int := IntKind.wrap .u64 (BitVec.ofInt (IntKind.bits .u64) a &&& BitVec.ofInt (IntKind.bits .u64) b).toNat
def orr (a b : Int) : Int := IntKind.wrap .u64 (BitVec.ofInt (IntKind.bits .u64) a ||| BitVec.ofInt (IntKind.bits .u64) b).toNat
def no (x : Int) : Int := IntKind.wrap .u64 (BitVec.ofInt (IntKind.bits .u64) (if IntKind.signed .u64 then -1 else IntKind.max .u64) ^^^ BitVec.ofInt (IntKind.bits .u64) x).toNat
def ro (x n : Int) : Int := orr (x.fdiv (2 ^ min n.toNat (IntKind.bits .u64))) (w6 (x * 2 ^ min (w6 (64 - n)).toNat (IntKind.bits .u64)))
def mixr (x m n : Int) : Int := xo x (xo (ro x m) (ro x n))
def rd2 {α : Type} (s0 s1 s2 s3 s4 : Int) (k : Int → Int → Int → Int → Int → α) : α :=
  k (mixr s0 19 28) (mixr s1 61 39) (mixr s2 1 6) (mixr s3 10 17) (mixr s4 7 41)
def rd1 {α : Type} (n0 n1 n2 n3 n4 : Int) (k : Int → Int → Int → Int → Int → α) : α := rd2 (xo n0 n4) (xo n1 n0) (no n2) (xo n3 n2) n4 k
def rd0 {α : Type} (s0 s1 s2 s3 s4 : Int) (k : Int → Int → Int → Int → Int → α) : α :=
  rd1 (xo s0 (an (no s1) s2)) (xo s1 (an (no s2) s3)) (xo s2 (an (no s3) s4)) (xo s3 (an (no s4) s0)) (xo s4 (an (no s0) s1)) k
def rd {α : Type} (r a b c d e : Int) (k : Int → Int → Int → Int → Int → α) : α :=
  rd0 (xo a e) b (xo (xo c (w6 (240 - w6 (15 * r)))) b) d (xo e d) k
def perm : Nat → Int → Int → Int → Int → Int → Int → List AV
  | 0, r, a, b, c, d, e => [u a, u b, u c, u d, u e]
  | n + 1, r, a, b, c, d, e => rd r a b c d e (perm n (w6 (r + 1)))
theorem tP (a b c d e : Int) : evG tbl noB 1000 347 [.agg [u a, u b, u c, u d, u e]] = some (.agg (perm 12 0 a b c d e)) := by kernel_rfl
end Go.Proofs.YtbmlhmgldipnhabGreatE

namespace Go.Proofs.YtbmlhmgldipnhabGreatE
open Go
noncomputable section
def foN {α : Type} (n : Nat) (k : Int → α) : α := @Nat.rec (fun _ => α) (k (Int.ofNat 0)) (fun m _ => k (Int.ofNat (m + 1))) n
def fo {α : Type} (x : Int) (k : Int → α) : α := @Int.rec (fun _ => α) (fun n => foN n k) (fun n => k (Int.negSucc n)) x
theorem fo_eq {α : Type} (x : Int) (k : Int → α) : fo x k = k x := by
  cases x with
  | ofNat n => cases n <;> rfl
  | negSucc n => rfl
def permF : Nat → Int → Int → Int → Int → Int → Int → List AV
  | 0, r, a, b, c, d, e => [u a, u b, u c, u d, u e]
  | n + 1, r, a, b, c, d, e => rd r a b c d e fun a b c d e => fo a fun a => fo b fun b => fo c fun c => fo d fun d => fo e fun e => fo (w6 (r + 1)) fun r => permF n r a b c d e
theorem permF_eq : ∀ (n : Nat) (r a b c d e : Int), permF n r a b c d e = perm n r a b c d e
  | 0, _, _, _, _, _, _ => rfl
  | n + 1, r, a, b, c, d, e => by
    simp only [permF, perm, fo_eq, rd, rd0, rd1, rd2, permF_eq n]
def permB (args : List AV) : Option AV :=
  match args with
  | [.agg [.sc (.int .u64 a), .sc (.int .u64 b), .sc (.int .u64 c), .sc (.int .u64 d), .sc (.int .u64 e)]] => some (.agg (permF 12 0 a b c d e))
  | _ => none
def B1 (f : Nat) (args : List AV) : Option AV := @Bool.rec (fun _ => Option AV) none (permB args) (Nat.beq f 347)
theorem B1_good : BGood Tryz.prog B1 := by
  intro f args r h
  unfold B1 at h
  cases hf : Nat.beq f 347 with
  | false => rw [hf] at h; exact nomatch h
  | true =>
    rw [hf] at h
    have hf := Nat.eq_of_beq_eq_true hf
    subst hf
    revert h
    show permB args = some r → _
    unfold permB
    split
    · intro h
      cases h
      rw [permF_eq]
      exact evG_sound tbl_good noB_good (tP _ _ _ _ _)
    · intro h
      exact nomatch h
end
end Go.Proofs.YtbmlhmgldipnhabGreatE
