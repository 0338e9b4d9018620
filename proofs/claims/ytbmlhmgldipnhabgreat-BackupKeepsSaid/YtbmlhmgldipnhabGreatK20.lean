/-
  The law erasurelaw31.BackupKeeps answers true for every list of days, every number of days to keep and every day, and leaves its list as it was.
  Conditions: none beyond the statement's own.
-/
import Derived.Test.YtbmlhmgldipnhabGreatRows
import Derived.Test.YtbmlhmgldipnhabGreatK19
import Derived.Test.YtbmlhmgldipnhabGreatL4
import Derived.WalkKit
import Derived.ProofKit
import Derived.OpenShut
import Derived.ShutString
import Derived.ChangeOld
import Derived.Below
import Derived.SizedLaws
namespace Go.Proofs.YtbmlhmgldipnhabGreat.backupKeeps
open Go.ChangeShapes Go.WideShapes Go.ChangeAt Go.RowKit
open Go.ChangeMaps (open_string shut_string)
set_option linter.unusedVariables false
theorem own : ownKnob Tryz.prog.godebug = none := by kernel_rfl
theorem laidOut : laidOutB Tryz.prog = true := by kernel_rfl
set_option maxRecDepth 100000 in
theorem closed : joinedFacts Tryz.pinned.checked.prog 6 Tryz.f6 Rows.backupKeepsSpec Rows.backupKeepsRow = true := by
  have h0 := k0
  unfold fact0 at h0
  have h1 := k1
  unfold fact1 at h1
  have h2 := k2
  unfold fact2 at h2
  have h3 := k3
  unfold fact3 at h3
  have h4 := k4
  unfold fact4 at h4
  have h5 := k5
  unfold fact5 at h5
  have h6 := k6
  unfold fact6 at h6
  have h7 := k7
  unfold fact7 at h7
  have h8 := k8
  unfold fact8 at h8
  have h9 := k9
  unfold fact9 at h9
  have h10 := k10
  unfold fact10 at h10
  have h11 := k11
  unfold fact11 at h11
  have h12 := k12
  unfold fact12 at h12
  have h13 := k13
  unfold fact13 at h13
  have h14 := k14
  unfold fact14 at h14
  have h15 := k15
  unfold fact15 at h15
  have h16 := k16
  unfold fact16 at h16
  have h17 := k17
  unfold fact17 at h17
  have h18 := k18
  unfold fact18 at h18
  have h19 := k19
  unfold fact19 at h19
  have h20 := k20
  unfold fact20 at h20
  have h21 := k21
  unfold fact21 at h21
  have h22 := k22
  unfold fact22 at h22
  have h23 := k23
  unfold fact23 at h23
  have h24 := k24
  unfold fact24 at h24
  have h25 := k25
  unfold fact25 at h25
  have h26 := k26
  unfold fact26 at h26
  have h27 := k27
  unfold fact27 at h27
  have h28 := k28
  unfold fact28 at h28
  have h29 := k29
  unfold fact29 at h29
  have h30 := k30
  unfold fact30 at h30
  have h31 := k31
  unfold fact31 at h31
  unfold joinedFacts
  exact andT (andT (andT (andT (andT (andT (andT (andT (andT (andT (andT (andT (andT (andT (andT (andT (andT (andT (andT (andT (andT (andT (andT (andT (andT (andT (andT (andT (andT (andT (andT h0 h1) h2) h3) h4) h5) h6) h7) h8) h9) h10) h11) h12) h13) h14) h15) h16) h17) h18) h19) h20) h21) h22) h23) h24) h25) h26) h27) h28) h29) h30) h31
set_option maxRecDepth 100000 in
theorem lifted (os : Os) (started : os.Started) (H : Type) (enc : TypeId × Value → H) :
    ReturnsInHanded {} Tryz.checked os 6 .any (Rows.backupKeepsSpec.pre6 enc Tryz.prog Tryz.f6 Rows.backupKeepsRow.domain false) (Rows.backupKeepsSpec.post enc Tryz.prog Tryz.f6 false true false false) := by
  refine returnsInHanded_of_change_sized (C := Tryz.checked) own started (by kernel_rfl) Tryz.func6
    (ChangeSpec.witness6 (enc := enc) (C := Tryz.checked) false ⟨#[], #[.slice none 0 0, .int .i64 0, .int .i64 0], []⟩ 8 (by kernel_rfl) (by kernel_rfl) (by kernel_rfl) (by kernel_rfl)) ?_
  intro W base args ds gs before hval0 hW hcnd hsz0 _
  have hsz : (DataW.weightsEach Tryz.prog (Tryz.f6.params.toList ++ Rows.backupKeepsSpec.plain.varTypes Tryz.prog) (ds ++ gs)).all (· ≤ reachBytes) = true := hsz0
  have hval : ∀ (j : Nat) t v, Tryz.f6.params[j]? = some t → args[j]? = some v → Value.okWide Tryz.prog W .any base t v := hval0
  have hW' := hW
  obtain ⟨p, q, hA0, hV, rfl, hfz, hnd⟩ := hW
  have hA : DataW.TrodAll enc Tryz.prog W 0 (fun _ => true) true Tryz.f6.params.toList args.toList ds p := hA0
  rw [Tryz.params6] at hA hval hsz
  obtain ⟨v0, vs0, d0, ds0, p0, q0, hargs, rfl, rfl, h0, r0⟩ := trodAll_cons hA
  obtain ⟨v1, vs1, d1, ds1, p1, q1, rfl, rfl, rfl, h1, r1⟩ := trodAll_cons r0
  obtain ⟨v2, vs2, d2, ds2, p2, q2, rfl, rfl, rfl, h2, r2⟩ := trodAll_cons r1
  obtain ⟨rfl, rfl, rfl⟩ := trodAll_nil r2
  obtain rfl : args = #[v0, v1, v2] := by cases args; simp_all
  obtain ⟨rfl, rfl⟩ := trodVars_none hV
  obtain ⟨a0, len0, cap0, rfl⟩ := okWide_slice Tryz.underlying73 (hval 0 73 v0 rfl rfl)
  have k0 := h0
  have lt0 : ∀ x ∈ p0, x.block < W.heap.size := by obtain ⟨m, hm⟩ := k0; exact DataW.trod_lt m _ _ _ hm
  obtain ⟨z0, w0⟩ : ∃ zs, YtbmlhmgldipnhabGreatE.IsRow .i64 W a0 len0 cap0 zs := by
    obtain ⟨fuel, hf⟩ := h0
    rcases open_ints Tryz.underlying73 Tryz.underlying3 (by kernel_rfl) hf with ⟨hcs, _⟩ | ⟨x, l, c, zs, hcs, _, hl, hm, hz, _, hcell, hwz⟩
    · simp [Value.cells] at hcs
      obtain ⟨rfl, rfl, rfl⟩ := hcs
      exact ⟨[], .inl ⟨rfl, rfl, rfl, rfl⟩⟩
    · simp [Value.cells] at hcs
      obtain ⟨rfl, rfl, rfl⟩ := hcs
      exact ⟨zs, .inr ⟨_, rfl, hl, hm, by simpa using hz, hcell, hwz⟩⟩
  obtain ⟨a1, rfl, rfl, rfl, w1⟩ := open_int Tryz.underlying3 (hval 1 3 v1 rfl rfl) h1
  obtain ⟨a2, rfl, rfl, rfl, w2⟩ := open_int Tryz.underlying3 (hval 2 3 v2 rfl rfl) h2
  clear hA0 hval0 hsz0 hsz
  refine (YtbmlhmgldipnhabGreatE.walk a0 len0 cap0 z0 a1 a2 W w0).mono fun e W' ⟨he, bel⟩ => ?_
  subst he
  exact ⟨_, rfl, _, _, _, [], _, [], hW', trodAll_mk1 (shut_bool Tryz.underlying4 _), (trodAll_cons_mk (Below.trod laidOut (by kernel_rfl) (of_decide_eq_true (by kernel_rfl)) k0 bel lt0) (trodAll_cons_mk (shut_int Tryz.underlying3 w1) (trodAll_cons_mk (shut_int Tryz.underlying3 w2) trodAll_mk0))), rfl, bel.frame _, fun h => by cases h⟩
theorem over : Rows.backupKeepsRow.holds Tryz.pinned (OpenSpec.ofChange Rows.backupKeepsSpec) :=
  OpenClaim.holds_of_wide 6 Tryz.f6 rfl rfl rfl rfl rfl rfl rfl ⟨rfl, rfl, rfl, rfl, rfl⟩ rfl rfl rfl rfl rfl (by kernel_rfl) Tryz.func6 closed
    (of_decide_eq_true (by kernel_rfl)) (by unfold Func.isWrapper; first | (rw [if_pos (by decide +kernel)]; kernel_rfl) | (rw [if_neg (by decide +kernel)]; exact ⟨rfl, rfl⟩))
    (fun os started H enc _ => lifted os started H enc)
theorem proved : Rows.BackupKeepsSaid := over
end Go.Proofs.YtbmlhmgldipnhabGreat.backupKeeps
namespace Go.Proofs.YtbmlhmgldipnhabGreat
/-- The row, under a short name, for the claim. -/
theorem backupKeeps_holds : Rows.BackupKeepsSaid := backupKeeps.proved
end Go.Proofs.YtbmlhmgldipnhabGreat

