/-
  No cell of these rows narrows 'for every input' (looked for: loops, veiled, ifaces, maps, wideKeys, modest, calm, conditions, laid).
  DERIVED. THE GIVEN ROWS OF THIS SEAT. 4 by the template 'for every input the law returns true; each argument reads behind the call as it read before'; 0 by the template 'total and deterministic' (their statements: YtbmlhmgldipnhabGreatTotals.lean).
  GIVEN WITH THE SEED: the statements are not yours to turn. If you find one false, say at which input.
  Laid BY PROGRAM, IN A SANDBOX (cutbox-rows.mjs): the forced cells as the released guide's own fill.sh prints them over the translation 24456c2de23e0522… (all of the seat's roots in one cut). By AI agents, Wed Nov 11 2026. No macro, syntax, notation, axiom, sorry.
-/
import Derived.Test.YtbmlhmgldipnhabGreatChecked
import GoSem.Claim
import GoSem.ClaimJoined
import GoSem.ClaimMapViews
import Derived.JoinedTies
import Derived.KernelRfl
namespace Go.Proofs.YtbmlhmgldipnhabGreat
/- THE CELL 'sum', in the pinned program and in every row, IS THE sha256 OF THE DUMP (.gsa) THAT YtbmlhmgldipnhabGreatProg.lean LOADS. Nothing in Lean hashes anything: it is a label: what it is worth is what the hold of that sum in a sandbox is worth. -/
noncomputable def Tryz.pinned : Pinned := { name := "ytbmlhmgldipnhabgreat", sum := "24456c2de23e0522efdadafdd2f240f7426f6e156598e890a263300393af8de5", checked := Tryz.checked }
namespace Rows
def none {H : Type} : Left H := { results := [], args := [] }

/-- 'erasurelaw07.TableFull': WHATEVER THE INPUT: true; the input reads as it did. -/
def tableFullSpec : ChangeSpec := { name := "tableFull", fn := fun _ => fun
  | [d] => { results := [.lit (.bool true)], args := [d] }
  | _ => none }
def tableFullRow : OpenClaim := { program := "ytbmlhmgldipnhabgreat", sum := "24456c2de23e0522efdadafdd2f240f7426f6e156598e890a263300393af8de5", func := "erasure/erasurelaw07.TableFull", spec := "tableFull", inPlace := ["slices.overlaps[erasure/api.Record]"], unfollowed := true, recurses := true, plainKeys := false, apart := false }
def TableFullSaid : Prop := tableFullRow.holds Tryz.pinned (OpenSpec.ofChange tableFullSpec)

/-- ITS FALSE NEIGHBOUR: 'it returns false'. Refute it at one input. -/
def tableFullWrong : ChangeSpec := { name := "tableFull", fn := fun _ => fun
  | [d] => { results := [.lit (.bool false)], args := [d] }
  | _ => none }
def TableFullWrongFalsely : Prop := tableFullRow.holds Tryz.pinned (OpenSpec.ofChange tableFullWrong)

/-- 'erasurelaw29.StreamFull': WHATEVER THE INPUT: true; the input reads as it did. -/
def streamFullSpec : ChangeSpec := { name := "streamFull", fn := fun _ => fun
  | [d] => { results := [.lit (.bool true)], args := [d] }
  | _ => none }
def streamFullRow : OpenClaim := { program := "ytbmlhmgldipnhabgreat", sum := "24456c2de23e0522efdadafdd2f240f7426f6e156598e890a263300393af8de5", func := "erasure/erasurelaw29.StreamFull", spec := "streamFull", unfollowed := true, recurses := true, plainKeys := false, apart := false }
def StreamFullSaid : Prop := streamFullRow.holds Tryz.pinned (OpenSpec.ofChange streamFullSpec)

/-- ITS FALSE NEIGHBOUR: 'it returns false'. Refute it at one input. -/
def streamFullWrong : ChangeSpec := { name := "streamFull", fn := fun _ => fun
  | [d] => { results := [.lit (.bool false)], args := [d] }
  | _ => none }
def StreamFullWrongFalsely : Prop := streamFullRow.holds Tryz.pinned (OpenSpec.ofChange streamFullWrong)

/-- 'erasurelaw07.TableRaw': WHATEVER THE INPUT: true; the input reads as it did. -/
def tableRawSpec : ChangeSpec := { name := "tableRaw", fn := fun _ => fun
  | [d1, d2] => { results := [.lit (.bool true)], args := [d1, d2] }
  | _ => none }
def tableRawRow : OpenClaim := { program := "ytbmlhmgldipnhabgreat", sum := "24456c2de23e0522efdadafdd2f240f7426f6e156598e890a263300393af8de5", func := "erasure/erasurelaw07.TableRaw", spec := "tableRaw", inPlace := ["slices.overlaps[erasure/api.Record]"], unfollowed := true, recurses := true, plainKeys := false, apart := false }
def TableRawSaid : Prop := tableRawRow.holds Tryz.pinned (OpenSpec.ofChange tableRawSpec)

/-- ITS FALSE NEIGHBOUR: 'it returns false'. Refute it at one input. -/
def tableRawWrong : ChangeSpec := { name := "tableRaw", fn := fun _ => fun
  | [d1, d2] => { results := [.lit (.bool false)], args := [d1, d2] }
  | _ => none }
def TableRawWrongFalsely : Prop := tableRawRow.holds Tryz.pinned (OpenSpec.ofChange tableRawWrong)

/-- 'erasurelaw31.BackupKeeps': WHATEVER THE INPUT: true; the input reads as it did. -/
def backupKeepsSpec : ChangeSpec := { name := "backupKeeps", fn := fun _ => fun
  | [d1, d2, d3] => { results := [.lit (.bool true)], args := [d1, d2, d3] }
  | _ => none }
def backupKeepsRow : OpenClaim := { program := "ytbmlhmgldipnhabgreat", sum := "24456c2de23e0522efdadafdd2f240f7426f6e156598e890a263300393af8de5", func := "erasure/erasurelaw31.BackupKeeps", spec := "backupKeeps", unfollowed := true, recurses := true, plainKeys := false, apart := false }
def BackupKeepsSaid : Prop := backupKeepsRow.holds Tryz.pinned (OpenSpec.ofChange backupKeepsSpec)

/-- ITS FALSE NEIGHBOUR: 'it returns false'. Refute it at one input. -/
def backupKeepsWrong : ChangeSpec := { name := "backupKeeps", fn := fun _ => fun
  | [d1, d2, d3] => { results := [.lit (.bool false)], args := [d1, d2, d3] }
  | _ => none }
def BackupKeepsWrongFalsely : Prop := backupKeepsRow.holds Tryz.pinned (OpenSpec.ofChange backupKeepsWrong)

/- THE SECOND FORM. 'bulk': how many values and letters a reading holds, each counted each time it is reached (what is shared counts as often as it is met; a slice's spare places count too). A statement '..UptoSaid' is the law's where the arguments, and the package variables that the reading takes, are together of bulk at most 1048576: NARROWER than '..Said'. Prove '..Said' where nothing that the law and all that it calls make is longer than what came in: it says more and counts as full. Else prove '..UptoSaid'. A law counts once. -/
mutual
def uptoBulk {H : Type} : DataW H → Nat
  | .lit (.string bytes) => bytes.length + 1
  | .lit _ => 1
  | .nil => 1
  | .ptr d => uptoBulk d + 1
  | .slice elems spare => uptoBulkAll elems + uptoBulkAll spare + 1
  | .agg parts => uptoBulkAll parts + 1
  | .iface _ d => uptoBulk d + 1
  | .map entries => uptoBulkEntries entries + 1
  | .held _ => 1
def uptoBulkAll {H : Type} : List (DataW H) → Nat
  | [] => 0
  | d :: r => uptoBulk d + uptoBulkAll r
def uptoBulkEntries {H : Type} : List (Lit × DataW H) → Nat
  | [] => 0
  | x :: r => uptoBulkEntry x + uptoBulkEntries r
def uptoBulkEntry {H : Type} : Lit × DataW H → Nat
  | (.string bytes, d) => bytes.length + uptoBulk d + 1
  | (_, d) => uptoBulk d + 1
 end
def uptoSmall : (H : Type) → List (DataW H) → Bool := fun _ ds => decide (uptoBulkAll ds ≤ 1048576)
def OpenSpec.upto (s : _root_.Go.ChangeSpec) : _root_.Go.OpenSpec := { _root_.Go.OpenSpec.ofChange s with cond := some uptoSmall }

/-- 'erasurelaw07.TableFull', WHERE WHAT IT READS IS OF BULK AT MOST 1048576: true; the input reads as it did. -/
def tableFullUptoRow : OpenClaim := { program := "ytbmlhmgldipnhabgreat", sum := "24456c2de23e0522efdadafdd2f240f7426f6e156598e890a263300393af8de5", func := "erasure/erasurelaw07.TableFull", spec := "tableFull", inPlace := ["slices.overlaps[erasure/api.Record]"], unfollowed := true, recurses := true, plainKeys := false, apart := false, narrowed := true }
def TableFullUptoSaid : Prop := tableFullUptoRow.holds Tryz.pinned (OpenSpec.upto tableFullSpec)

/-- 'erasurelaw29.StreamFull', WHERE WHAT IT READS IS OF BULK AT MOST 1048576: true; the input reads as it did. -/
def streamFullUptoRow : OpenClaim := { program := "ytbmlhmgldipnhabgreat", sum := "24456c2de23e0522efdadafdd2f240f7426f6e156598e890a263300393af8de5", func := "erasure/erasurelaw29.StreamFull", spec := "streamFull", unfollowed := true, recurses := true, plainKeys := false, apart := false, narrowed := true }
def StreamFullUptoSaid : Prop := streamFullUptoRow.holds Tryz.pinned (OpenSpec.upto streamFullSpec)

/-- 'erasurelaw07.TableRaw', WHERE WHAT IT READS IS OF BULK AT MOST 1048576: true; the input reads as it did. -/
def tableRawUptoRow : OpenClaim := { program := "ytbmlhmgldipnhabgreat", sum := "24456c2de23e0522efdadafdd2f240f7426f6e156598e890a263300393af8de5", func := "erasure/erasurelaw07.TableRaw", spec := "tableRaw", inPlace := ["slices.overlaps[erasure/api.Record]"], unfollowed := true, recurses := true, plainKeys := false, apart := false, narrowed := true }
def TableRawUptoSaid : Prop := tableRawUptoRow.holds Tryz.pinned (OpenSpec.upto tableRawSpec)

/-- 'erasurelaw31.BackupKeeps', WHERE WHAT IT READS IS OF BULK AT MOST 1048576: true; the input reads as it did. -/
def backupKeepsUptoRow : OpenClaim := { program := "ytbmlhmgldipnhabgreat", sum := "24456c2de23e0522efdadafdd2f240f7426f6e156598e890a263300393af8de5", func := "erasure/erasurelaw31.BackupKeeps", spec := "backupKeeps", unfollowed := true, recurses := true, plainKeys := false, apart := false, narrowed := true }
def BackupKeepsUptoSaid : Prop := backupKeepsUptoRow.holds Tryz.pinned (OpenSpec.upto backupKeepsSpec)

end Rows
end Go.Proofs.YtbmlhmgldipnhabGreat
