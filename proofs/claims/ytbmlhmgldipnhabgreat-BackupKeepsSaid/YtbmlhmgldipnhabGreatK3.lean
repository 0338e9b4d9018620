/-
  The catalogue of the law is valid, for each number of days.
  Conditions: those that each theorem names.
-/
import Derived.Test.YtbmlhmgldipnhabGreatTG
import Derived.Test.YtbmlhmgldipnhabGreatE31
set_option linter.unusedVariables false
set_option linter.unnecessarySimpa false
set_option linter.unusedSimpArgs false
namespace Go.Proofs.YtbmlhmgldipnhabGreatE
open Go
/-- The law's catalogue: one table, one backup that keeps k days. -/
def cK (k : Int) : AV := .agg [.fsl 4 [[.sc (.string ⟨#[116]⟩), .fsl 7 [[.sc (.string ⟨#[97]⟩), .sc (.int .i64 1), .sc (.string ⟨#[]⟩), .sc (.string ⟨#[]⟩), .nils, .sc (.int .i64 0), .sc (.int .i64 0)]], .sc (.int .i64 0), .sc (.int .i64 0)]], .nils, .nils, .nils, .nils, .nils, .nils, .fsl 3 [[.sc (.string ⟨#[98]⟩), .fsl 1 [[.sc (.string ⟨#[116]⟩)]], .sc (.int .i64 k)]]]

theorem v71_1 : evG tbl noB 1000000 71 [cK 1] = some (.sc (.bool true)) := by kernel_rfl
theorem v71_2 : evG tbl noB 1000000 71 [cK 2] = some (.sc (.bool true)) := by kernel_rfl
theorem v71_3 : evG tbl noB 1000000 71 [cK 3] = some (.sc (.bool true)) := by kernel_rfl
theorem v71_4 : evG tbl noB 1000000 71 [cK 4] = some (.sc (.bool true)) := by kernel_rfl
theorem v71_5 : evG tbl noB 1000000 71 [cK 5] = some (.sc (.bool true)) := by kernel_rfl
theorem v71_6 : evG tbl noB 1000000 71 [cK 6] = some (.sc (.bool true)) := by kernel_rfl
theorem v71_7 : evG tbl noB 1000000 71 [cK 7] = some (.sc (.bool true)) := by kernel_rfl
theorem v71_8 : evG tbl noB 1000000 71 [cK 8] = some (.sc (.bool true)) := by kernel_rfl
theorem v71_9 : evG tbl noB 1000000 71 [cK 9] = some (.sc (.bool true)) := by kernel_rfl
theorem v71_10 : evG tbl noB 1000000 71 [cK 10] = some (.sc (.bool true)) := by kernel_rfl
theorem v71_11 : evG tbl noB 1000000 71 [cK 11] = some (.sc (.bool true)) := by kernel_rfl
theorem v71_12 : evG tbl noB 1000000 71 [cK 12] = some (.sc (.bool true)) := by kernel_rfl
theorem v71_13 : evG tbl noB 1000000 71 [cK 13] = some (.sc (.bool true)) := by kernel_rfl
theorem v71_14 : evG tbl noB 1000000 71 [cK 14] = some (.sc (.bool true)) := by kernel_rfl
theorem v71_15 : evG tbl noB 1000000 71 [cK 15] = some (.sc (.bool true)) := by kernel_rfl
theorem v71_16 : evG tbl noB 1000000 71 [cK 16] = some (.sc (.bool true)) := by kernel_rfl
theorem v71_17 : evG tbl noB 1000000 71 [cK 17] = some (.sc (.bool true)) := by kernel_rfl
theorem v71_18 : evG tbl noB 1000000 71 [cK 18] = some (.sc (.bool true)) := by kernel_rfl
theorem v71_19 : evG tbl noB 1000000 71 [cK 19] = some (.sc (.bool true)) := by kernel_rfl
theorem v71_20 : evG tbl noB 1000000 71 [cK 20] = some (.sc (.bool true)) := by kernel_rfl
theorem v71_21 : evG tbl noB 1000000 71 [cK 21] = some (.sc (.bool true)) := by kernel_rfl
theorem v71_22 : evG tbl noB 1000000 71 [cK 22] = some (.sc (.bool true)) := by kernel_rfl
theorem v71_23 : evG tbl noB 1000000 71 [cK 23] = some (.sc (.bool true)) := by kernel_rfl
theorem v71_24 : evG tbl noB 1000000 71 [cK 24] = some (.sc (.bool true)) := by kernel_rfl
theorem v71_25 : evG tbl noB 1000000 71 [cK 25] = some (.sc (.bool true)) := by kernel_rfl
theorem v71_26 : evG tbl noB 1000000 71 [cK 26] = some (.sc (.bool true)) := by kernel_rfl
theorem v71_27 : evG tbl noB 1000000 71 [cK 27] = some (.sc (.bool true)) := by kernel_rfl
theorem v71_28 : evG tbl noB 1000000 71 [cK 28] = some (.sc (.bool true)) := by kernel_rfl
theorem v71_29 : evG tbl noB 1000000 71 [cK 29] = some (.sc (.bool true)) := by kernel_rfl
theorem v71_30 : evG tbl noB 1000000 71 [cK 30] = some (.sc (.bool true)) := by kernel_rfl
theorem v71_31 : evG tbl noB 1000000 71 [cK 31] = some (.sc (.bool true)) := by kernel_rfl
theorem v71_32 : evG tbl noB 1000000 71 [cK 32] = some (.sc (.bool true)) := by kernel_rfl
theorem v71_33 : evG tbl noB 1000000 71 [cK 33] = some (.sc (.bool true)) := by kernel_rfl
theorem v71_34 : evG tbl noB 1000000 71 [cK 34] = some (.sc (.bool true)) := by kernel_rfl
theorem v71_35 : evG tbl noB 1000000 71 [cK 35] = some (.sc (.bool true)) := by kernel_rfl
theorem v71_36 : evG tbl noB 1000000 71 [cK 36] = some (.sc (.bool true)) := by kernel_rfl
theorem v71_37 : evG tbl noB 1000000 71 [cK 37] = some (.sc (.bool true)) := by kernel_rfl
theorem v71_38 : evG tbl noB 1000000 71 [cK 38] = some (.sc (.bool true)) := by kernel_rfl
theorem v71_39 : evG tbl noB 1000000 71 [cK 39] = some (.sc (.bool true)) := by kernel_rfl
theorem v71_40 : evG tbl noB 1000000 71 [cK 40] = some (.sc (.bool true)) := by kernel_rfl
theorem v73_1 : evG tbl noB 1000000 73 [cK 1] = some (.sc (.bool true)) := by kernel_rfl
theorem v73_2 : evG tbl noB 1000000 73 [cK 2] = some (.sc (.bool true)) := by kernel_rfl
theorem v73_3 : evG tbl noB 1000000 73 [cK 3] = some (.sc (.bool true)) := by kernel_rfl
theorem v73_4 : evG tbl noB 1000000 73 [cK 4] = some (.sc (.bool true)) := by kernel_rfl
theorem v73_5 : evG tbl noB 1000000 73 [cK 5] = some (.sc (.bool true)) := by kernel_rfl
theorem v73_6 : evG tbl noB 1000000 73 [cK 6] = some (.sc (.bool true)) := by kernel_rfl
theorem v73_7 : evG tbl noB 1000000 73 [cK 7] = some (.sc (.bool true)) := by kernel_rfl
theorem v73_8 : evG tbl noB 1000000 73 [cK 8] = some (.sc (.bool true)) := by kernel_rfl
theorem v73_9 : evG tbl noB 1000000 73 [cK 9] = some (.sc (.bool true)) := by kernel_rfl
theorem v73_10 : evG tbl noB 1000000 73 [cK 10] = some (.sc (.bool true)) := by kernel_rfl
theorem v73_11 : evG tbl noB 1000000 73 [cK 11] = some (.sc (.bool true)) := by kernel_rfl
theorem v73_12 : evG tbl noB 1000000 73 [cK 12] = some (.sc (.bool true)) := by kernel_rfl
theorem v73_13 : evG tbl noB 1000000 73 [cK 13] = some (.sc (.bool true)) := by kernel_rfl
theorem v73_14 : evG tbl noB 1000000 73 [cK 14] = some (.sc (.bool true)) := by kernel_rfl
theorem v73_15 : evG tbl noB 1000000 73 [cK 15] = some (.sc (.bool true)) := by kernel_rfl
theorem v73_16 : evG tbl noB 1000000 73 [cK 16] = some (.sc (.bool true)) := by kernel_rfl
theorem v73_17 : evG tbl noB 1000000 73 [cK 17] = some (.sc (.bool true)) := by kernel_rfl
theorem v73_18 : evG tbl noB 1000000 73 [cK 18] = some (.sc (.bool true)) := by kernel_rfl
theorem v73_19 : evG tbl noB 1000000 73 [cK 19] = some (.sc (.bool true)) := by kernel_rfl
theorem v73_20 : evG tbl noB 1000000 73 [cK 20] = some (.sc (.bool true)) := by kernel_rfl
theorem v73_21 : evG tbl noB 1000000 73 [cK 21] = some (.sc (.bool true)) := by kernel_rfl
theorem v73_22 : evG tbl noB 1000000 73 [cK 22] = some (.sc (.bool true)) := by kernel_rfl
theorem v73_23 : evG tbl noB 1000000 73 [cK 23] = some (.sc (.bool true)) := by kernel_rfl
theorem v73_24 : evG tbl noB 1000000 73 [cK 24] = some (.sc (.bool true)) := by kernel_rfl
theorem v73_25 : evG tbl noB 1000000 73 [cK 25] = some (.sc (.bool true)) := by kernel_rfl
theorem v73_26 : evG tbl noB 1000000 73 [cK 26] = some (.sc (.bool true)) := by kernel_rfl
theorem v73_27 : evG tbl noB 1000000 73 [cK 27] = some (.sc (.bool true)) := by kernel_rfl
theorem v73_28 : evG tbl noB 1000000 73 [cK 28] = some (.sc (.bool true)) := by kernel_rfl
theorem v73_29 : evG tbl noB 1000000 73 [cK 29] = some (.sc (.bool true)) := by kernel_rfl
theorem v73_30 : evG tbl noB 1000000 73 [cK 30] = some (.sc (.bool true)) := by kernel_rfl
theorem v73_31 : evG tbl noB 1000000 73 [cK 31] = some (.sc (.bool true)) := by kernel_rfl
theorem v73_32 : evG tbl noB 1000000 73 [cK 32] = some (.sc (.bool true)) := by kernel_rfl
theorem v73_33 : evG tbl noB 1000000 73 [cK 33] = some (.sc (.bool true)) := by kernel_rfl
theorem v73_34 : evG tbl noB 1000000 73 [cK 34] = some (.sc (.bool true)) := by kernel_rfl
theorem v73_35 : evG tbl noB 1000000 73 [cK 35] = some (.sc (.bool true)) := by kernel_rfl
theorem v73_36 : evG tbl noB 1000000 73 [cK 36] = some (.sc (.bool true)) := by kernel_rfl
theorem v73_37 : evG tbl noB 1000000 73 [cK 37] = some (.sc (.bool true)) := by kernel_rfl
theorem v73_38 : evG tbl noB 1000000 73 [cK 38] = some (.sc (.bool true)) := by kernel_rfl
theorem v73_39 : evG tbl noB 1000000 73 [cK 39] = some (.sc (.bool true)) := by kernel_rfl
theorem v73_40 : evG tbl noB 1000000 73 [cK 40] = some (.sc (.bool true)) := by kernel_rfl
end Go.Proofs.YtbmlhmgldipnhabGreatE
