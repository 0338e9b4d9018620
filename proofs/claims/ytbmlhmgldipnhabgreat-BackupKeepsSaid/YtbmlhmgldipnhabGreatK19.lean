/-
  The closed facts of the row of the law backupKeeps, each reckoned by itself.
  Conditions: none.
-/
import Derived.Test.YtbmlhmgldipnhabGreatRows
import Derived.JoinedOf
import Derived.KernelRfl
namespace Go.Proofs.YtbmlhmgldipnhabGreat.backupKeeps
open Go
set_option linter.unusedVariables false
theorem andT {a b : Bool} (h : a = true) (k : b = true) : (a && b) = true := by rw [h, k]; rfl
def fact0 (P : Program) (f : FuncId) (fn : Func) (s : ChangeSpec) (c : OpenClaim) : Bool := c.wf (OpenSpec.ofChange s)
theorem k0 : fact0 Tryz.pinned.checked.prog 6 Tryz.f6 Rows.backupKeepsSpec Rows.backupKeepsRow = true := by kernel_rfl
def fact1 (P : Program) (f : FuncId) (fn : Func) (s : ChangeSpec) (c : OpenClaim) : Bool := laidOutB P
theorem k1 : fact1 Tryz.pinned.checked.prog 6 Tryz.f6 Rows.backupKeepsSpec Rows.backupKeepsRow = true := by kernel_rfl
def fact2 (P : Program) (f : FuncId) (fn : Func) (s : ChangeSpec) (c : OpenClaim) : Bool := mapsRowed P
theorem k2 : fact2 Tryz.pinned.checked.prog 6 Tryz.f6 Rows.backupKeepsSpec Rows.backupKeepsRow = true := by kernel_rfl
def fact3 (P : Program) (f : FuncId) (fn : Func) (s : ChangeSpec) (c : OpenClaim) : Bool := fn.params.all (P.readableRec ·)
theorem k3 : fact3 Tryz.pinned.checked.prog 6 Tryz.f6 Rows.backupKeepsSpec Rows.backupKeepsRow = true := by kernel_rfl
def fact4 (P : Program) (f : FuncId) (fn : Func) (s : ChangeSpec) (c : OpenClaim) : Bool := namedTie P c.named s.vars
theorem k4 : fact4 Tryz.pinned.checked.prog 6 Tryz.f6 Rows.backupKeepsSpec Rows.backupKeepsRow = true := by kernel_rfl
def fact5 (P : Program) (f : FuncId) (fn : Func) (s : ChangeSpec) (c : OpenClaim) : Bool := (c.stops == [])
theorem k5 : fact5 Tryz.pinned.checked.prog 6 Tryz.f6 Rows.backupKeepsSpec Rows.backupKeepsRow = true := by kernel_rfl
def fact6 (P : Program) (f : FuncId) (fn : Func) (s : ChangeSpec) (c : OpenClaim) : Bool := (P.stops == [])
theorem k6 : fact6 Tryz.pinned.checked.prog 6 Tryz.f6 Rows.backupKeepsSpec Rows.backupKeepsRow = true := by kernel_rfl
def fact7 (P : Program) (f : FuncId) (fn : Func) (s : ChangeSpec) (c : OpenClaim) : Bool := (c.knobs == [])
theorem k7 : fact7 Tryz.pinned.checked.prog 6 Tryz.f6 Rows.backupKeepsSpec Rows.backupKeepsRow = true := by kernel_rfl
def fact8 (P : Program) (f : FuncId) (fn : Func) (s : ChangeSpec) (c : OpenClaim) : Bool := (P.stopKnobs == [])
theorem k8 : fact8 Tryz.pinned.checked.prog 6 Tryz.f6 Rows.backupKeepsSpec Rows.backupKeepsRow = true := by kernel_rfl
def fact9 (P : Program) (f : FuncId) (fn : Func) (s : ChangeSpec) (c : OpenClaim) : Bool := (c.inPlace == P.inPlace f)
theorem k9 : fact9 Tryz.pinned.checked.prog 6 Tryz.f6 Rows.backupKeepsSpec Rows.backupKeepsRow = true := by kernel_rfl
def fact10 (P : Program) (f : FuncId) (fn : Func) (s : ChangeSpec) (c : OpenClaim) : Bool := (c.unfollowed == P.unfollowed f)
theorem k10 : fact10 Tryz.pinned.checked.prog 6 Tryz.f6 Rows.backupKeepsSpec Rows.backupKeepsRow = true := by kernel_rfl
def fact11 (P : Program) (f : FuncId) (fn : Func) (s : ChangeSpec) (c : OpenClaim) : Bool := (c.recurses == P.recurses f)
theorem k11 : fact11 Tryz.pinned.checked.prog 6 Tryz.f6 Rows.backupKeepsSpec Rows.backupKeepsRow = true := by kernel_rfl
def fact12 (P : Program) (f : FuncId) (fn : Func) (s : ChangeSpec) (c : OpenClaim) : Bool := (c.named == P.varsNamed f)
theorem k12 : fact12 Tryz.pinned.checked.prog 6 Tryz.f6 Rows.backupKeepsSpec Rows.backupKeepsRow = true := by kernel_rfl
def fact13 (P : Program) (f : FuncId) (fn : Func) (s : ChangeSpec) (c : OpenClaim) : Bool := (c.maps == (fn.params.toList ++ s.plain.varTypes P).any (P.mapsRec ·))
theorem k13 : fact13 Tryz.pinned.checked.prog 6 Tryz.f6 Rows.backupKeepsSpec Rows.backupKeepsRow = true := by kernel_rfl
def fact14 (P : Program) (f : FuncId) (fn : Func) (s : ChangeSpec) (c : OpenClaim) : Bool := (c.ifaces == (fn.params.toList ++ s.plain.varTypes P).any (P.ifacesRec ·))
theorem k14 : fact14 Tryz.pinned.checked.prog 6 Tryz.f6 Rows.backupKeepsSpec Rows.backupKeepsRow = true := by kernel_rfl
def fact15 (P : Program) (f : FuncId) (fn : Func) (s : ChangeSpec) (c : OpenClaim) : Bool := (c.mapsOut == P.mapsAmong fn.resultTypes.toList)
theorem k15 : fact15 Tryz.pinned.checked.prog 6 Tryz.f6 Rows.backupKeepsSpec Rows.backupKeepsRow = true := by kernel_rfl
def fact16 (P : Program) (f : FuncId) (fn : Func) (s : ChangeSpec) (c : OpenClaim) : Bool := (c.loops == (fn.params.toList ++ s.plain.varTypes P).any (P.loopsFrom ·))
theorem k16 : fact16 Tryz.pinned.checked.prog 6 Tryz.f6 Rows.backupKeepsSpec Rows.backupKeepsRow = true := by kernel_rfl
def fact17 (P : Program) (f : FuncId) (fn : Func) (s : ChangeSpec) (c : OpenClaim) : Bool := (c.wideKeys == (fn.params.toList ++ s.plain.varTypes P ++ fn.resultTypes.toList).any (P.wideKeysFrom ·))
theorem k17 : fact17 Tryz.pinned.checked.prog 6 Tryz.f6 Rows.backupKeepsSpec Rows.backupKeepsRow = true := by kernel_rfl
def fact18 (P : Program) (f : FuncId) (fn : Func) (s : ChangeSpec) (c : OpenClaim) : Bool := s.vars.all (P.varReadable ·)
theorem k18 : fact18 Tryz.pinned.checked.prog 6 Tryz.f6 Rows.backupKeepsSpec Rows.backupKeepsRow = true := by kernel_rfl
def fact19 (P : Program) (f : FuncId) (fn : Func) (s : ChangeSpec) (c : OpenClaim) : Bool := fn.resultTypes.all (fun t => P.readableRec t && decide (t < P.types.size))
theorem k19 : fact19 Tryz.pinned.checked.prog 6 Tryz.f6 Rows.backupKeepsSpec Rows.backupKeepsRow = true := by kernel_rfl
def fact20 (P : Program) (f : FuncId) (fn : Func) (s : ChangeSpec) (c : OpenClaim) : Bool := (c.ifacesOut == fn.resultTypes.toList.any (P.ifacesRec ·))
theorem k20 : fact20 Tryz.pinned.checked.prog 6 Tryz.f6 Rows.backupKeepsSpec Rows.backupKeepsRow = true := by kernel_rfl
def fact21 (P : Program) (f : FuncId) (fn : Func) (s : ChangeSpec) (c : OpenClaim) : Bool := (c.loopsOut == fn.resultTypes.toList.any (P.loopsFrom ·))
theorem k21 : fact21 Tryz.pinned.checked.prog 6 Tryz.f6 Rows.backupKeepsSpec Rows.backupKeepsRow = true := by kernel_rfl
def fact22 (P : Program) (f : FuncId) (fn : Func) (s : ChangeSpec) (c : OpenClaim) : Bool := (c.plainKeys == P.plainKeys)
theorem k22 : fact22 Tryz.pinned.checked.prog 6 Tryz.f6 Rows.backupKeepsSpec Rows.backupKeepsRow = true := by kernel_rfl
def fact23 (P : Program) (f : FuncId) (fn : Func) (s : ChangeSpec) (c : OpenClaim) : Bool := c.shortTexts.isNone
theorem k23 : fact23 Tryz.pinned.checked.prog 6 Tryz.f6 Rows.backupKeepsSpec Rows.backupKeepsRow = true := by kernel_rfl
def fact24 (P : Program) (f : FuncId) (fn : Func) (s : ChangeSpec) (c : OpenClaim) : Bool := P.stopsHeard
theorem k24 : fact24 Tryz.pinned.checked.prog 6 Tryz.f6 Rows.backupKeepsSpec Rows.backupKeepsRow = true := by kernel_rfl
def fact25 (P : Program) (f : FuncId) (fn : Func) (s : ChangeSpec) (c : OpenClaim) : Bool := P.mayEnter
theorem k25 : fact25 Tryz.pinned.checked.prog 6 Tryz.f6 Rows.backupKeepsSpec Rows.backupKeepsRow = true := by kernel_rfl
def fact26 (P : Program) (f : FuncId) (fn : Func) (s : ChangeSpec) (c : OpenClaim) : Bool := (c.lifted == P.liftsFinal)
theorem k26 : fact26 Tryz.pinned.checked.prog 6 Tryz.f6 Rows.backupKeepsSpec Rows.backupKeepsRow = true := by kernel_rfl
def fact27 (P : Program) (f : FuncId) (fn : Func) (s : ChangeSpec) (c : OpenClaim) : Bool := (P.make == some c.make)
theorem k27 : fact27 Tryz.pinned.checked.prog 6 Tryz.f6 Rows.backupKeepsSpec Rows.backupKeepsRow = true := by kernel_rfl
def fact28 (P : Program) (f : FuncId) (fn : Func) (s : ChangeSpec) (c : OpenClaim) : Bool := (c.kinds == (if c.domain.isEmpty then [] else fn.params.toList.map fun t => match P.underlying t with | some (.int k) => some k | _ => none))
theorem k28 : fact28 Tryz.pinned.checked.prog 6 Tryz.f6 Rows.backupKeepsSpec Rows.backupKeepsRow = true := by kernel_rfl
def fact29 (P : Program) (f : FuncId) (fn : Func) (s : ChangeSpec) (c : OpenClaim) : Bool := (c.pinned == c.pinnedBy)
theorem k29 : fact29 Tryz.pinned.checked.prog 6 Tryz.f6 Rows.backupKeepsSpec Rows.backupKeepsRow = true := by kernel_rfl
def fact30 (P : Program) (f : FuncId) (fn : Func) (s : ChangeSpec) (c : OpenClaim) : Bool := (c.veiled == (fn.params.toList ++ s.plain.varTypes P ++ fn.resultTypes.toList).any (P.veiledRec ·))
theorem k30 : fact30 Tryz.pinned.checked.prog 6 Tryz.f6 Rows.backupKeepsSpec Rows.backupKeepsRow = true := by kernel_rfl
def fact31 (P : Program) (f : FuncId) (fn : Func) (s : ChangeSpec) (c : OpenClaim) : Bool := c.veiledFits P fn.params.toList (fn.params.toList ++ s.plain.varTypes P ++ fn.resultTypes.toList)
theorem k31 : fact31 Tryz.pinned.checked.prog 6 Tryz.f6 Rows.backupKeepsSpec Rows.backupKeepsRow = true := by kernel_rfl
end Go.Proofs.YtbmlhmgldipnhabGreat.backupKeeps
