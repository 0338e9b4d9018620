/-
  The law erasurelaw31.BackupKeeps, function by function.
  Conditions: those that each theorem names.
-/
import Derived.Test.YtbmlhmgldipnhabGreatK2
import Derived.Test.YtbmlhmgldipnhabGreatK3
import Derived.Below
set_option linter.unusedVariables false
set_option linter.unnecessarySimpa false
set_option linter.unusedSimpArgs false
namespace Go.Proofs.YtbmlhmgldipnhabGreatE
open Go

attribute [go_sem] X.eval mm2 mmF AV.isInt

/-- A result of two: a slice of its own and a value without objects. -/
theorem Ends.own2 {s : St} {t t' k sz : Nat} {es : List (List AV)} {u : AV} {pre post : List (Nat × Node)} (hr : s.get (.t t) = .sl k sz 0 es.length) (hu : s.get (.t t') = u) (hf : u.flat = true) (ho : s.ob k = some (.row sz es)) (hc : (es.all fun e => e.all AV.plain) = true) (hp : okPost s post) (hk : okKeys pre post = true)
    (hkp : (keys pre).contains k = false) : Ends s [.slot t, .slot t'] (.tup [.own sz es, u]) pre post [(0, k)] := by
  simp only [okKeys, Bool.and_eq_true] at hk
  have hkp' : k ∉ keys pre := by simpa using hkp
  have hb : ∀ n, bindR n (.tup [.own sz es, u]) = (.tup [.sl n sz 0 es.length, u], [(n, .row sz es)]) := fun n => by
    have h1 := flat_bind1 hf (n + 20)
    simp only [bindR, bindTup]
    rw [h1]
    simp only [bind1, bind0, nodeOf, hc, if_true]
    rfl
  have hres : resV s [.slot t, .slot t'] = .tup [.sl k sz 0 es.length, u] := by
    show AV.tup [s.get (.t t), s.get (.t t')] = _
    rw [hr, hu]
  refine ⟨fun n _ => ⟨?_, ?_, fun j nd' h => ?_, fun k nd h => ?_, fun i k' h => ?_⟩, fun i k' h => ?_, fun i k' h => ?_, fun i k' h => ?_, fun k h => by simpa using List.all_eq_true.1 hk.1 k h, fun k h => by simpa using List.all_eq_true.1 hk.2 k h, trivial⟩
  · rw [hb, hres]
    simp [AV.ren, rens, ownRen, flat_ren hf]
  · rw [hres]
    simp [AV.names, namess, flat_names hf]
  · rw [hb] at h
    by_cases e : j = n
    · subst e
      simp only [lookup_cons_eq, Option.some.injEq] at h
      subst h
      exact ⟨0, k, _, by simp, rfl, ho, row_names rfl _, (row_ren rfl _).symm⟩
    · simp [lookup_cons_ne e] at h
  · obtain ⟨h1, h2⟩ := okPost.spec post hp k nd h
    exact ⟨nd, h1, row_names h2 _, (row_ren h2 _).symm⟩
  · simp only [List.mem_singleton, Prod.mk.injEq] at h
    rw [hb, h.1]
    simp [keys]
  · simp only [List.mem_singleton, Prod.mk.injEq] at h
    simp [h.1, h.2, List.lookup_cons]
  · simp only [List.mem_singleton, Prod.mk.injEq] at h
    simp [h.1, h.2, List.lookup_cons]
  · simp only [List.mem_singleton, Prod.mk.injEq] at h
    rw [h.2]; exact hkp'

/-- A call of a value, by a contract. -/
theorem Stop.cv {P : Program} {s : St} {x : Opd} {f : FuncId} {fs cs : List AV} {xs : List Opd} {d : Option Nat} {g : Option (Nat × Bool)} {a : List Nat} {m : Nat} {its : List It} {K : St → Prop} {args : List AV} {pre post : List (Nat × Node)} {r : AV} (hc : LCall P f args pre r post) (hb : hasBody P f = true) (hx : s.get x = .fn f fs cs) (T : List Nat) (n : Nat) (hg : runs s g = some true)
    (ha : okArgs s T n (fs ++ xs.map s.get ++ cs) args) (hp : okPre s pre) (hk : okCall m args pre post r T = true) (hm : (m :: keys (bindR m r).2).all (fun k => !s.nm.contains k) = true)
    (h : RegC P its (s.app d (callEv m r pre post (T ++ keys pre))) K) : Stop P s ⟨.callv x xs, d, g, a, m⟩ its K := by
  have h1 := CallS.of (P := P) (s := s) (m := m) (f := f) T n hc ha hp hk
  rw [List.all_eq_true] at hm
  exact ⟨_, runs_true (it := ⟨.callv x xs, d, g, a, m⟩) hg rfl (.callv hb hx h1) (by have := hm _ (List.mem_cons_self ..); simp at this; exact this) (fun k hk => by simpa using hm k (List.mem_cons_of_mem _ hk)), RegC.sound its _ h⟩

/-- A region in the text's order, its state looked at anew in the middle. -/
theorem RegK.sound2 {P : Program} {N : Nat} {ops : Array Oper} {draw : Bool} {Q : Exit → Act → World → Prop} {K : St → Prop} {its2 : List It} : ∀ (its1 : List It) (l : List Oper) (pre : List (List Nat)) {s : St} {β : Places} {Z : Froz} {a : Act} {w : World}, cIts P N ops draw pre l = some (its1 ++ its2) →
    RegK P its1 s (fun s1 => ∃ s2, Wk s1 s2 ∧ RegK P its2 s2 K) → Rel N β Z s a w → (∀ s' a' w' β' Z', K s' → Rel N β' Z' s' a' w' → SExt β Z s w β' Z' s' w' → Q .normal a' w') → wpList P ops Q l a w
  | [], l, pre, s, β, Z, a, w, hc, ⟨s2, hw, hk⟩, r, hQ => by
    obtain ⟨β1, Z1, r1, e1⟩ := hw N β Z a w r
    exact RegK.sound l pre its2 hc hk r1 fun s'' a'' w'' β'' Z'' k r'' e'' => hQ s'' a'' w'' β'' Z'' k r'' (e1.trans e'')
  | it0 :: its1, [], pre, s, β, Z, a, w, hc, h, r, hQ => by simp [cIts] at hc
  | it0 :: its1, o :: l, pre, s, β, Z, a, w, hc, h, r, hQ => by
    obtain ⟨it, its', he, h1, h2, h3, h4, h5, _⟩ := cIts_cons hc
    injection he with he1 he2
    subst he1
    subst he2
    obtain ⟨ev, hr, hk⟩ := h
    refine wpList_step fun K' hK' => ?_
    exact RunIt.sound r h4 h1 h2 h3 hr fun a' w' β' Z' r' e' => hK' _ _ (RegK.sound2 its1 l _ h5 hk r' fun s'' a'' w'' β'' Z'' k r'' e'' => hQ s'' a'' w'' β'' Z'' k r'' (e'.trans e''))

theorem AW.reg2 {P : Program} {N : Nat} {s : St} {Q : Exit → St → Prop} {its : List It} {live : List Nat} (n : Nat) (h : RegK P (its.take n) s (fun s1 => ∃ s2, Wk s1 s2 ∧ RegK P (its.drop n) s2 fun s' => Q .normal (s'.keep live))) : AW P N (.reg its live) s Q := fun hh code hc => by
  obtain ⟨id, ops, rfl, h1, rfl⟩ := comp_inv hc
  intro β Z a w r
  rw [← List.take_append_drop n its] at h1
  have := wp_region_list (id := id) (RegK.sound2 (Q := fun e a' w' => e = .normal ∧ ∃ s' β' Z', Q .normal (s'.keep (hh id)) ∧ Rel N β' Z' s' a' w' ∧ SExt β Z s w β' Z' s' w') (K := fun s' => Q .normal (s'.keep (hh id))) (its.take n) ops.toList [] h1 h r fun s' a' w' β' Z' q r' e' => ⟨rfl, s', β', Z', q, r', e'⟩)
  refine wp_mono this fun e a' w' ⟨he, s', β', Z', q, r', e'⟩ => ?_
  subst he
  obtain ⟨β'', Z'', r'', e''⟩ := Wk.keep s' (hh id) N β' Z' a' w' r'
  exact ⟨_, β'', Z'', q, r'', e'.trans e''⟩

theorem AW.r2 {P : Program} {N : Nat} {s : St} {Q : Exit → St → Prop} {its : List It} {live : List Nat} {b : CI} (n : Nat) (h : ∀ K : St → Prop, (∀ s', AW P N b (s'.keep live) Q → K s') → RegC P (its.take n) s fun s1 => ∃ s2, Wk s1 s2 ∧ RegC P (its.drop n) s2 K) : AW P N (.seq (.reg its live) b) s Q :=
  AW.seq (AW.reg2 n (RegK.mono (fun _ ⟨s2, h1, h2⟩ => ⟨s2, h1, RegC.sound _ _ h2⟩) _ _ (RegC.sound _ _ (h _ fun _ h => h))))

/-- A snapshot of the law: a day and a number; its offsets are a list without elements, or nil. -/
def off : Bool → AV
  | true => .fsl 1 []
  | false => .nils
def sx (c : Bool) (p : Int × Int) : List AV := [.sc (.int .i64 p.1), .sc (.int .i64 p.2), off c, .nils]
abbrev Sn := Bool × Int × Int
def sy (x : Sn) : List AV := sx x.1 x.2
def cl (x : Sn) : Sn := (true, x.2)
def scl (x : Sn) : List AV := sy (cl x)
theorem nodeOf_pl {sz : Nat} {es : List (List AV)} (h : (es.all fun e => e.all AV.plain) = true) : nodeOf sz es = .row sz es := by rw [nodeOf, if_pos h]
theorem scl_plain (l : List Sn) (i : Nat) : (((l.map scl).take i).all fun e => e.all AV.plain) = true := by
  rw [List.all_eq_true]
  intro e he
  obtain ⟨x, _, rfl⟩ := List.mem_map.1 (List.mem_of_mem_take he)
  obtain ⟨c, d, q⟩ := x
  cases c <;> rfl
theorem sy_plain (l : List Sn) (i : Nat) : (((l.map sy).take i).all fun e => e.all AV.plain) = true := by
  rw [List.all_eq_true]
  intro e he
  obtain ⟨x, _, rfl⟩ := List.mem_map.1 (List.mem_of_mem_take he)
  obtain ⟨c, d, q⟩ := x
  cases c <;> rfl
theorem scl_noF : ∀ l : List Sn, noFss (l.map scl) = true
  | [] => rfl
  | (c, d, q) :: l => by
    simp only [List.map_cons, noFss, scl_noF l, Bool.and_true]
    cases c <;> rfl
theorem sy_noF : ∀ l : List Sn, noFss (l.map sy) = true
  | [] => rfl
  | (c, d, q) :: l => by
    simp only [List.map_cons, noFss, sy_noF l, Bool.and_true]
    cases c <;> rfl
attribute [go_sem] scl_noF sy_noF
theorem scl_map (l : List Sn) : l.map scl = (l.map cl).map sy := by rw [List.map_map]; rfl
theorem sy_len (x : Sn) : (sy x).length = 4 := rfl
theorem sy_take (x : Sn) : List.take 4 (sy x) = sy x := rfl
theorem sy_names (l : List Nat) (x : Sn) : namess l (sy x) = true := by obtain ⟨c, d, q⟩ := x; cases c <;> rfl
theorem sy_bind (n : Nat) (x : Sn) : bindCells n (sy x) = (sy x, []) := by obtain ⟨c, d, q⟩ := x; cases c <;> rfl
theorem sy_plain1 (x : Sn) : (sy x).all AV.plain = true := by obtain ⟨c, d, q⟩ := x; cases c <;> rfl
theorem sy_ren (ρ : Nat → Nat) (x : Sn) : rens ρ (sy x) = sy x := by obtain ⟨c, d, q⟩ := x; cases c <;> rfl
theorem sy_flat (x : Sn) : (sy x).all AV.flat = true := by obtain ⟨c, d, q⟩ := x; cases c <;> rfl

theorem copy1_call (x : Sn) : PCall Tryz.prog 151 [.agg (sy x)] (.agg (sy (cl x))) := by
  obtain ⟨c, d, q⟩ := x
  cases c
  · exact evG_sound tbl_good noB_good (n := 1000) (by kernel_rfl)
  · exact evG_sound tbl_good noB_good (n := 1000) (by kernel_rfl)

/-- isDay -/
def dayB (d : Int) : Bool := decide (0 ≤ d) && decide (d ≤ 1048576)
theorem isDay_call (d : Int) : PCall Tryz.prog 90 [.sc (.int .i64 d)] (.sc (.bool (dayB d))) := by
  refine LCall.of_body Tryz.func90 c90_ok rfl (by show 1 ≤ Tryz.f90.ntmps; decide) ?_
  generalize hQ : (fun (e : Exit) (s' : St) => (e = .ret ∨ e = .normal) ∧ ∃ s'' own, Wk s' s'' ∧ Ends s'' [.slot 2] (.sc (.bool (dayB d))) [] [] own) = Q
  unfold c90
  refine AW.r fun K hK => ?_
  simp [r90_0, go_sem]
  apply hK; clear hK K
  refine AW.r fun K hK => ?_
  by_cases h1 : 0 ≤ d <;> simp [r90_1, go_sem, h1]
  all_goals
    apply hK; clear hK K
    refine AW.ret ?_
    subst hQ
    refine ⟨.inl rfl, _, [], Wk.refl _, Ends.still trivial ?_ ?_ ?_ ?_⟩
    all_goals first | rfl | trivial | simp [go_sem, dayB, h1]
end Go.Proofs.YtbmlhmgldipnhabGreatE

namespace Go.Proofs.YtbmlhmgldipnhabGreatE
open Go

theorem each_call (l : List Sn) (hl : l ≠ []) (hn : l.length ≤ 1000) : LCall Tryz.prog 150 [.fsl 4 (l.map sy), .fn 151 [] []] [] (.own 4 (l.map scl)) [] := by
  refine LCall.of_body Tryz.func150 c150_ok rfl (by show 2 ≤ Tryz.f150.ntmps; decide) ?_
  generalize hQ : (fun (e : Exit) (s' : St) => (e = .ret ∨ e = .normal) ∧ ∃ s'' own, Wk s' s'' ∧ Ends s'' [.slot 4] (.own 4 (l.map scl)) [] [] own) = Q
  unfold c150
  have hne : ∃ e es, l.map sy = e :: es := by
    cases l with
    | nil => exact absurd rfl hl
    | cons x l => exact ⟨_, _, rfl⟩
  refine AW.r fun K hK => ?_
  simp [r150_0, go_sem]
  apply hK; clear hK K
  refine AW.q fun M hM => AW.r fun K hK => ?_
  obtain ⟨e0, es0, he⟩ := hne
  rw [he]
  simp [r150_1, go_sem]
  apply hK; clear hK K
  refine AW.c rfl (fun h => nomatch h) (fun h => AW.done ?_)
  rw [← he]
  simp only [Exit.thenK]
  apply hM; clear hM M
  refine AW.r fun K hK => ?_
  have h64 : 64 * (l.length : Int) ≤ 281474976710656 := by omega
  have h63 : (l.length : Int) ≤ 9223372036854775807 := by omega
  simp [r150_3, go_sem, h64, h63]
  apply hK; clear hK K
  refine AW.q fun M hM => ?_
  refine AW.r fun K hK => ?_
  simp [r150_4, go_sem]
  apply hK; clear hK K
  refine AW.k fun M1 hM1 => ?_
  refine AW.l (fun n s => ∃ i, i + n = l.length ∧ s = { env := [(0, .fsl 4 (l.map sy)), (1, .fn 151 [] []), (5, .sl 5000 4 0 i), (6, .sc (.int .i64 i))], obs := [(5000, some (.row 4 ((l.map scl).take i)))], nm := [5000] }) l.length ?_ ?_
  · refine ⟨_, Wk.take (ps := [(1200, 5000)]) ?_, 0, by omega, ?_⟩
    · simp [go_sem, okTake]
    · simp [go_sem]
  · rintro n s ⟨i, hi, rfl⟩ R hR
    refine AW.q fun M2 hM2 => ?_
    refine AW.r fun K hK => ?_
    simp [r150_5, go_sem]
    apply hK; clear hK K
    refine AW.c rfl (fun h => AW.done ?_) (fun h => AW.exit ?_)
    · have h' : i < l.length := by simpa using h
      obtain ⟨⟨c, d, q⟩, hx⟩ : ∃ x, l[i]? = some x := ⟨_, List.getElem?_eq_getElem h'⟩
      have hpi := scl_plain l i
      have hw : IntKind.wrap .i64 ((i : Int) + 1) = (i : Int) + 1 := wrap_i64 (by omega) (by omega)
      have hc := copy1_call (c, d, q)
      have hstep : (l.map scl).take i ++ [[AV.sc (.int .i64 d), .sc (.int .i64 q), .fsl 1 [], .nils]] = (l.map scl).take (i + 1) := by
        rw [List.take_add_one]
        simp [hx]
        rfl
      have hmin : min i l.length = i := by omega
      have htt : List.take i (List.take i (l.map scl)) = List.take i (l.map scl) := by simp [List.take_take]
      have hb : (i + 1) * 64 ≤ 140737488355328 := by omega
      simp only [Exit.thenK]
      apply hM2; clear hM2 M2
      refine AW.q fun M2 hM2 => ?_
      refine AW.k fun M3 hM3 => ?_
      refine AW.r1 fun K hK => ?_
      cases c
      all_goals
        simp [r150_7, go_sem, hx, sy, sx, off]
        refine Stop.cv hc (by kernel_rfl) rfl [] 0 rfl ?_ trivial ?_ ?_ ?_
        · simp [go_sem, sy, sx, off]
        · simp [go_sem, sy, sx, off, cl]
        · simp [go_sem, sy, sx, off, cl]
        simp [go_sem, sy, sx, off, cl, hmin, htt, hb, nodeOf_pl, hpi]
        apply hK; clear hK K
        simp only [Exit.thenK, Exit.inB]
        apply hM3
        simp only [Exit.thenK]
        apply hM2
        refine AW.r1 fun K hK => ?_
        simp [r150_6, go_sem, hw]
        apply hK; clear hK K
        simp only [Exit.thenK]
        refine hR (n - 1) _ _ (by omega) (Wk.take (ps := [(2700, 5000)]) ?_) ⟨i + 1, by omega, ?_⟩
        · simp [go_sem, okTake]
        · simp [go_sem, ← hstep]
    · simp only [Exit.thenK, Exit.inB, if_true]
      apply hM1
      simp only [Exit.thenK]
      apply hM
      refine AW.r fun K hK => ?_
      simp [r150_8, go_sem]
      apply hK; clear hK K
      refine AW.ret ?_
      subst hQ
      have hil : i = l.length := by simp at h; omega
      subst hil
      refine ⟨.inl rfl, _, [(0, 5000)], Wk.refl _, Ends.own ?_ ?_ ?_ trivial rfl rfl⟩
      · simp [go_sem]
      · simp [go_sem]
        exact List.take_of_length_le (by simp)
      · have := scl_plain l l.length
        rwa [List.take_of_length_le (by simp)] at this

/-- clone.Snapshots -/
theorem clone_call (l : List Sn) (hl : l ≠ []) (hn : l.length ≤ 1000) : LCall Tryz.prog 88 [.fsl 4 (l.map sy)] [] (.own 4 (l.map scl)) [] := by
  refine LCall.of_body Tryz.func88 c88_ok rfl (by show 1 ≤ Tryz.f88.ntmps; decide) ?_
  generalize hQ : (fun (e : Exit) (s' : St) => (e = .ret ∨ e = .normal) ∧ ∃ s'' own, Wk s' s'' ∧ Ends s'' [.slot 2] (.own 4 (l.map scl)) [] [] own) = Q
  unfold c88
  have hpl := scl_plain l l.length
  rw [List.take_of_length_le (by simp)] at hpl
  refine AW.r fun K hK => ?_
  simp [r88_0, go_sem]
  apply hK; clear hK K
  refine AW.r fun K hK => ?_
  simp [r88_1, go_sem]
  refine Stop.c (each_call l hl hn) [] 0 rfl ?_ trivial ?_ ?_ ?_
  · simp [go_sem]
  · simp [go_sem, nodeOf_pl, hpl]
  · simp [go_sem, nodeOf_pl, hpl]
  simp [go_sem, nodeOf_pl, hpl]
  apply hK; clear hK K
  refine AW.ret ?_
  subst hQ
  refine ⟨.inl rfl, _, [(0, 500)], Wk.refl _, Ends.own ?_ ?_ hpl trivial rfl rfl⟩
  · simp [go_sem]
  · simp [go_sem]
theorem clone_nil : PCall Tryz.prog 88 [.nils] .nils := evG_sound tbl_good noB_good (n := 1000) (by kernel_rfl)
end Go.Proofs.YtbmlhmgldipnhabGreatE

namespace Go.Proofs.YtbmlhmgldipnhabGreatE
open Go

def cC (k : Int) : List AV := match cK k with | .agg cs => cs | _ => []
def ValidC (k : Int) : Prop := PCall Tryz.prog 71 [cK k] (.sc (.bool true)) ∧ PCall Tryz.prog 73 [cK k] (.sc (.bool true))

theorem number_call (k : Int) : PCall Tryz.prog 149 [cK k, .sc (.string ⟨#[116]⟩)] (.sc (.int .i64 0)) := evG_sound tbl_good noB_good (n := 1000) (by kernel_rfl)

/-- is -/
theorem is_call {k : Int} (hv : ValidC k) : PCall Tryz.prog 89 [cK k, .sc (.int .i64 0)] (.sc (.bool true)) := by
  have hv := hv.2
  refine LCall.of_body Tryz.func89 c89_ok rfl (by show 2 ≤ Tryz.f89.ntmps; decide) ?_
  generalize hQ : (fun (e : Exit) (s' : St) => (e = .ret ∨ e = .normal) ∧ ∃ s'' own, Wk s' s'' ∧ Ends s'' [.slot 4] (.sc (.bool true)) [] [] own) = Q
  unfold c89
  refine AW.r fun K hK => ?_
  simp [r89_0, go_sem, cK]
  apply hK; clear hK K
  refine AW.r fun K hK => ?_
  simp [r89_1, go_sem]
  refine Stop.c hv [] 0 rfl ?_ trivial ?_ ?_ ?_
  · simp [go_sem, cK]
  · simp [go_sem, cK]
  · simp [go_sem]
  simp [go_sem, cK]
  apply hK; clear hK K
  refine AW.ret ?_
  subst hQ
  refine ⟨.inl rfl, _, [], Wk.refl _, Ends.still trivial ?_ ?_ ?_ ?_⟩
  all_goals first | rfl | trivial | simp [go_sem]

/-- tables, of the one backup -/
theorem tables_call {k : Int} (hv : ValidC k) : PCall Tryz.prog 87 [cK k, .sc (.int .i64 0)] (.tup [.fsl 1 [[.sc (.int .i64 0)]], .sc (.bool true)]) := by
  have hv := hv.1
  refine LCall.of_body Tryz.func87 c87_ok rfl (by show 2 ≤ Tryz.f87.ntmps; decide) ?_
  generalize hQ : (fun (e : Exit) (s' : St) => (e = .ret ∨ e = .normal) ∧ ∃ s'' own, Wk s' s'' ∧ Ends s'' [.slot 4, .slot 5] (.tup [.fsl 1 [[.sc (.int .i64 0)]], .sc (.bool true)]) [] [] own) = Q
  unfold c87
  refine AW.r fun K hK => ?_
  simp [r87_0, go_sem, cK]
  apply hK; clear hK K
  refine AW.q fun M hM => AW.r fun K hK => ?_
  simp [r87_1, go_sem]
  refine Stop.c hv [] 0 rfl ?_ trivial ?_ ?_ ?_
  · simp [go_sem, cK]
  · simp [go_sem, cK]
  · simp [go_sem]
  simp [go_sem, cK]
  apply hK; clear hK K
  refine AW.c rfl (fun h => nomatch h) (fun h => AW.done ?_)
  simp only [Exit.thenK]
  apply hM; clear hM M
  refine AW.r fun K hK => ?_
  simp [r87_3, go_sem]
  apply hK; clear hK K
  refine AW.q fun M hM => AW.r fun K hK => ?_
  simp [r87_4, go_sem]
  apply hK; clear hK K
  refine AW.k fun M1 hM1 => ?_
  refine AW.l (fun n s => (n = 1 ∧ s = { env := [(2, .ptr 300 8 0 0), (6, .nils), (28, .fsl 1 [[.sc (.string ⟨#[116]⟩)]]), (29, .sc (.int .i64 1)), (30, .sc (.int .i64 0))], obs := [(300, some (.row 8 [cC k]))], nm := [300] }) ∨
    (n = 0 ∧ s = { env := [(2, .ptr 300 8 0 0), (6, .sl 4000 1 0 1), (28, .fsl 1 [[.sc (.string ⟨#[116]⟩)]]), (29, .sc (.int .i64 1)), (30, .sc (.int .i64 1))], obs := [(300, some (.row 8 [cC k])), (4000, some (.row 1 [[.sc (.int .i64 0)]]))], nm := [300, 4000] })) 1 ?_ ?_
  · refine ⟨_, Wk.refl _, .inl ⟨rfl, ?_⟩⟩
    simp [go_sem, cC, cK]
  · rintro n s (⟨rfl, rfl⟩ | ⟨rfl, rfl⟩) R hR
    · refine AW.r fun K hK => ?_
      simp [r87_5, go_sem]
      apply hK; clear hK K
      refine AW.q fun M2 hM2 => ?_
      refine AW.c rfl (fun h => AW.done ?_) (fun h => nomatch h)
      simp only [Exit.thenK]
      apply hM2; clear hM2 M2
      refine AW.q fun M2 hM2 => AW.k fun M3 hM3 => ?_
      refine AW.r fun K hK => ?_
      simp [r87_6, go_sem]
      apply hK; clear hK K
      refine AW.r1 fun K hK => ?_
      simp [r87_7, go_sem, cC, cK]
      refine Stop.c (number_call k) [] 0 rfl ?_ trivial ?_ ?_ ?_
      · simp [go_sem, cK]
      · simp [go_sem, cK]
      · simp [go_sem]
      simp [go_sem]
      apply hK; clear hK K
      simp only [Exit.thenK, Exit.inB]
      apply hM3
      simp only [Exit.thenK]
      apply hM2
      refine AW.r1 fun K hK => ?_
      simp [r87_8, go_sem]
      apply hK; clear hK K
      simp only [Exit.thenK]
      refine hR 0 _ _ (by omega) (Wk.take (ps := [(300, 300), (4000, 4000)]) ?_) (.inr ⟨rfl, ?_⟩)
      · simp [go_sem, okTake]
      · simp [go_sem, cC, cK]
        try rfl
    · refine AW.r fun K hK => ?_
      simp [r87_5, go_sem]
      apply hK; clear hK K
      refine AW.q fun M2 hM2 => ?_
      refine AW.c rfl (fun h => nomatch h) (fun h => AW.exit ?_)
      simp only [Exit.thenK, Exit.inB, if_true]
      apply hM1
      simp only [Exit.thenK]
      apply hM
      refine AW.r fun K hK => ?_
      simp [r87_9, go_sem]
      apply hK; clear hK K
      refine AW.ret ?_
      subst hQ
      refine ⟨.inl rfl, _, [], (Wk.fz _ [4000] 3), Ends.still trivial ?_ ?_ ?_ ?_⟩
      all_goals first | rfl | trivial | simp [go_sem]

/-- tables, of no backup -/
theorem tables_no {k b : Int} (hv : ValidC k) (hb : b < 0 ∨ b = 1) : PCall Tryz.prog 87 [cK k, .sc (.int .i64 b)] (.tup [.nils, .sc (.bool false)]) := by
  have hv := hv.1
  refine LCall.of_body Tryz.func87 c87_ok rfl (by show 2 ≤ Tryz.f87.ntmps; decide) ?_
  generalize hQ : (fun (e : Exit) (s' : St) => (e = .ret ∨ e = .normal) ∧ ∃ s'' own, Wk s' s'' ∧ Ends s'' [.slot 4, .slot 5] (.tup [.nils, .sc (.bool false)]) [] [] own) = Q
  unfold c87
  refine AW.r fun K hK => ?_
  simp [r87_0, go_sem, cK]
  apply hK; clear hK K
  refine AW.q fun M hM => AW.r fun K hK => ?_
  simp [r87_1, go_sem]
  refine Stop.c hv [] 0 rfl ?_ trivial ?_ ?_ ?_
  · simp [go_sem, cK]
  · simp [go_sem, cK]
  · simp [go_sem]
  have hb' : b < 0 ∨ (¬ b < 0 ∧ b = 1) := by omega
  rcases hb' with h | ⟨h, rfl⟩ <;> simp [go_sem, cK, h]
  all_goals
    apply hK; clear hK K
    refine AW.c rfl (fun h => ?_) (fun h => nomatch h)
    refine AW.r fun K hK => ?_
    simp [r87_2, go_sem]
    apply hK; clear hK K
    refine AW.ret ?_
    simp only [Exit.thenK]
    subst hQ
    refine ⟨.inl rfl, _, [], Wk.refl _, Ends.still trivial ?_ ?_ ?_ ?_⟩
    all_goals first | rfl | trivial | simp [go_sem]
end Go.Proofs.YtbmlhmgldipnhabGreatE

namespace Go.Proofs.YtbmlhmgldipnhabGreatE
open Go

/-- Keep, a day that is too early. -/
theorem keep_err {k : Int} (hv : ValidC k) (l : List Sn) (x s : Sn) (hn : l.length ≤ 1000) (hd : s.2.1 < x.2.1) :
    LCall Tryz.prog 33 [cK k, .sc (.int .i64 0), .sl 1 4 0 (l.length + 1), .agg (sy s)] [(1, .row 4 ((l ++ [x]).map sy))] (.tup [.nils, .sc (.int .i64 1)]) [(1, .row 4 ((l ++ [x]).map sy))] := by
  refine LCall.of_body Tryz.func33 c33_ok rfl (by show 4 ≤ Tryz.f33.ntmps; decide) ?_
  generalize hQ : (fun (e : Exit) (s' : St) => (e = .ret ∨ e = .normal) ∧ ∃ s'' own, Wk s' s'' ∧ Ends s'' [.slot 8, .slot 9] (.tup [.nils, .sc (.int .i64 1)]) [(1, .row 4 ((l ++ [x]).map sy))] [(1, .row 4 ((l ++ [x]).map sy))] own) = Q
  obtain ⟨c, d, q⟩ := s
  obtain ⟨c', d', q'⟩ := x
  simp only at hd
  have hx : ((l ++ [(c', d', q')]).map sy)[l.length]? = some (sy (c', d', q')) := by simp
  have hlen : ((l ++ [(c', d', q')]).map sy).length = l.length + 1 := by simp
  generalize hes : (l ++ [(c', d', q')]).map sy = es at *
  generalize hnn : l.length = n at *
  have hw : IntKind.wrap .i64 ((n : Int) + 1 - 1) = n := by rw [show (n : Int) + 1 - 1 = n by omega]; exact wrap_i64 (by omega) (by omega)
  have hw' : IntKind.wrap .i64 (n : Int) = n := wrap_i64 (by omega) (by omega)
  have hlt : (n : Int) < n + 1 := by omega
  have hpos : (0 : Int) < n + 1 := by omega
  unfold c33
  refine AW.r fun K hK => ?_
  cases c <;> simp [r33_0, go_sem, cK, sy, sx, off]
  all_goals
    apply hK; clear hK K
    refine AW.q fun M hM => AW.r fun K hK => ?_
    simp [r33_1, go_sem]
    refine Stop.c (tables_call hv) [] 0 rfl ?_ trivial ?_ ?_ ?_
    · simp [go_sem, cK]
    · simp [go_sem, cK]
    · simp [go_sem]
    simp [go_sem]
    apply hK; clear hK K
    refine AW.d fun K hK => ?_
    simp [r33_2, go_sem, hpos, hlt, hw, hw', hx, sy, sx, hd]
    refine ⟨rfl, hK _ ?_⟩
    clear hK K
    refine AW.c rfl (fun h => ?_) (fun h => nomatch h)
    refine AW.r fun K hK => ?_
    simp [r33_3, go_sem]
    apply hK; clear hK K
    refine AW.ret ?_
    simp only [Exit.thenK]
    subst hQ
    refine ⟨.inl rfl, _, [], Wk.refl _, Ends.still trivial ?_ ?_ ?_ ?_⟩
    all_goals first | rfl | trivial | simp [go_sem]
end Go.Proofs.YtbmlhmgldipnhabGreatE

namespace Go.Proofs.YtbmlhmgldipnhabGreatE
open Go
attribute [-go_sem] nodeOf
attribute [local go_sem] nodeOf_pl

/-- The snapshots that Keep leaves. -/
def keepL (l : List Sn) (s : Sn) : List Sn := (l ++ [s]).drop (l.length + 1 - 8)

/-- Keep, a day that is late enough. -/
theorem keep_ok {k : Int} (hv : ValidC k) (l : List Sn) (x s : Sn) (hn : l.length ≤ 1000) (hd : x.2.1 ≤ s.2.1) :
    LCall Tryz.prog 33 [cK k, .sc (.int .i64 0), .sl 1 4 0 (l.length + 1), .agg (sy s)] [(1, .row 4 ((l ++ [x]).map sy))] (.tup [.own 4 ((keepL (l ++ [x]) s).map scl), .sc (.int .i64 0)]) [] := by
  refine LCall.of_body Tryz.func33 c33_ok rfl (by show 4 ≤ Tryz.f33.ntmps; decide) ?_
  generalize hQ : (fun (e : Exit) (s' : St) => (e = .ret ∨ e = .normal) ∧ ∃ s'' own, Wk s' s'' ∧ Ends s'' [.slot 8, .slot 9] (.tup [.own 4 ((keepL (l ++ [x]) s).map scl), .sc (.int .i64 0)]) [(1, .row 4 ((l ++ [x]).map sy))] [] own) = Q
  obtain ⟨c, d, q⟩ := s
  obtain ⟨c', d', q'⟩ := x
  simp only at hd
  have hkl : ((l ++ [(c', d', q')]).map sy ++ [sy (c, d, q)]).drop (l.length - 6) = (keepL (l ++ [(c', d', q')]) (c, d, q)).map sy := by
    unfold keepL
    rw [List.map_drop, List.map_append]
    simp
  have hkn : keepL (l ++ [(c', d', q')]) (c, d, q) ≠ [] := by
    unfold keepL
    intro h
    have := congrArg List.length h
    simp at this
    omega
  have hkl1 : (keepL (l ++ [(c', d', q')]) (c, d, q)).length ≤ 1000 := by
    unfold keepL
    simp
    omega
  have hpk : (((keepL (l ++ [(c', d', q')]) (c, d, q)).map scl).all fun e => e.all AV.plain) = true := by
    have := scl_plain (keepL (l ++ [(c', d', q')]) (c, d, q)) 2000
    rwa [List.take_of_length_le (by simp; omega)] at this
  have hcl := clone_call _ hkn hkl1
  have hpl : (((l ++ [(c', d', q')]).map sy).all fun e => e.all AV.plain) = true := by
    have := sy_plain (l ++ [(c', d', q')]) 2000
    rwa [List.take_of_length_le (by simp; omega)] at this
  have hx : ((l ++ [(c', d', q')]).map sy)[l.length]? = some (sy (c', d', q')) := by simp
  have hlen : ((l ++ [(c', d', q')]).map sy).length = l.length + 1 := by simp
  generalize keepL (l ++ [(c', d', q')]) (c, d, q) = kl at *
  generalize hes : (l ++ [(c', d', q')]).map sy = es at *
  generalize hnn : l.length = n at *
  have hw : IntKind.wrap .i64 ((n : Int) + 1 - 1) = n := by rw [show (n : Int) + 1 - 1 = n by omega]; exact wrap_i64 (by omega) (by omega)
  have hw' : IntKind.wrap .i64 (n : Int) = n := wrap_i64 (by omega) (by omega)
  have hlt : (n : Int) < n + 1 := by omega
  have hnd : ¬ d < d' := by omega
  have hif : (if 8 < (n : Int) + 1 + 1 then (n : Int) + 1 + 1 - 8 else 0) = ((n - 6 : Nat) : Int) := by split <;> omega
  have hdn : n ≤ n + 1 + 1 + 6 := by omega
  have htk : List.take (n + 1) es = es := List.take_of_length_le (by omega)
  have h0 : (0 : Int) ≤ n + 1 := by omega
  have h64 : (n + 1 + 1) * 64 ≤ 140737488355328 := by omega
  have hw8 : IntKind.wrap .i64 ((n : Int) + 1 + 1 - 8) = (n : Int) + 1 + 1 - 8 := wrap_i64 (by omega) (by omega)
  have hpos : (0 : Int) < n + 1 := by omega
  unfold c33
  refine AW.r fun K hK => ?_
  generalize hcc : c = cc
  cases cc <;> simp [r33_0, go_sem, cK, sy, sx, off]
  all_goals
    apply hK; clear hK K
    refine AW.q fun M hM => AW.r fun K hK => ?_
    simp [r33_1, go_sem]
    refine Stop.c (tables_call hv) [] 0 rfl ?_ trivial ?_ ?_ ?_
    · simp [go_sem, cK]
    · simp [go_sem, cK]
    · simp [go_sem]
    simp [go_sem]
    apply hK; clear hK K
    refine AW.d fun K hK => ?_
    simp [r33_2, go_sem, hpos, hlt, hw, hw', hx, sy, sx, hnd]
    refine ⟨rfl, hK _ ?_⟩
    clear hK K
    refine AW.c rfl (fun h => nomatch h) (fun h => AW.done ?_)
    simp only [Exit.thenK]
    apply hM; clear hM M
    refine AW.d fun K hK => ?_
    simp [r33_4, go_sem, hlen, h64, h0, htk, nodeOf_pl, hpl]
    refine ⟨rfl, hK _ ?_⟩
    clear hK K
    refine AW.r fun K hK => ?_
    simp [r33_5, go_sem, hlen, hw8, hif, hdn]
    have hkt : List.take (n + 1 + 1 - (n - 6)) (List.drop (n - 6) (es ++ [sy (c, d, q)])) = kl.map sy := by
      rw [hkl]
      refine List.take_of_length_le ?_
      rw [← hkl]
      simp
      omega
    refine Stop.c hcl [4700] 2 rfl ?_ trivial ?_ ?_ ?_
    · simp [go_sem, hlen]
      rw [if_pos (by omega)]
      rw [hcc] at hkt
      exact congrArg (AV.fsl 4) hkt
    · simp [go_sem, hpk]
    · simp [go_sem]
    simp [go_sem, hpk]
    apply hK; clear hK K
    refine AW.ret ?_
    subst hQ
    refine ⟨.inl rfl, _, [(0, 5400)], Wk.refl _, Ends.own2 ?_ ?_ rfl ?_ hpk trivial rfl rfl⟩
    all_goals first | rfl | simp [go_sem]
end Go.Proofs.YtbmlhmgldipnhabGreatE

namespace Go.Proofs.YtbmlhmgldipnhabGreatE
open Go
attribute [-go_sem] nodeOf
attribute [local go_sem] nodeOf_pl

/-- Keep, the first. -/
theorem keep_nil {k : Int} (hv : ValidC k) (s : Sn) :
    LCall Tryz.prog 33 [cK k, .sc (.int .i64 0), .nils, .agg (sy s)] [] (.tup [.own 4 ([s].map scl), .sc (.int .i64 0)]) [] := by
  refine LCall.of_body Tryz.func33 c33_ok rfl (by show 4 ≤ Tryz.f33.ntmps; decide) ?_
  generalize hQ : (fun (e : Exit) (s' : St) => (e = .ret ∨ e = .normal) ∧ ∃ s'' own, Wk s' s'' ∧ Ends s'' [.slot 8, .slot 9] (.tup [.own 4 ([s].map scl), .sc (.int .i64 0)]) [] [] own) = Q
  have hcl := clone_call [s] (by simp) (by simp)
  obtain ⟨c, d, q⟩ := s
  unfold c33
  refine AW.r fun K hK => ?_
  cases c <;> simp [r33_0, go_sem, cK, sy, sx, off]
  all_goals
    apply hK; clear hK K
    refine AW.q fun M hM => AW.r fun K hK => ?_
    simp [r33_1, go_sem]
    refine Stop.c (tables_call hv) [] 0 rfl ?_ trivial ?_ ?_ ?_
    · simp [go_sem, cK]
    · simp [go_sem, cK]
    · simp [go_sem]
    simp [go_sem]
    apply hK; clear hK K
    refine AW.d fun K hK => ?_
    simp [r33_2, go_sem]
    refine ⟨rfl, hK _ ?_⟩
    clear hK K
    refine AW.c rfl (fun h => nomatch h) (fun h => AW.done ?_)
    simp only [Exit.thenK]
    apply hM; clear hM M
    refine AW.d fun K hK => ?_
    simp [r33_4, go_sem]
    refine ⟨rfl, hK _ ?_⟩
    clear hK K
    refine AW.r fun K hK => ?_
    have hw8 : IntKind.wrap .i64 (-7) = -7 := by decide
    simp [r33_5, go_sem, hw8]
    refine Stop.c hcl [4700] 2 rfl ?_ trivial ?_ ?_ ?_
    · simp [go_sem, sy, sx, off]
    · simp [go_sem, scl, cl, sy, sx, off]
    · simp [go_sem]
    simp [go_sem, scl, cl, sy, sx, off]
    apply hK; clear hK K
    refine AW.ret ?_
    subst hQ
    refine ⟨.inl rfl, _, [(0, 5400)], Wk.refl _, Ends.own2 ?_ ?_ rfl ?_ rfl trivial rfl rfl⟩
    all_goals first | rfl | simp [go_sem]

/-- Keep, of no backup, no snapshot kept. -/
theorem keep_no0 {k : Int} (hv : ValidC k) :
    LCall Tryz.prog 33 [cK k, .sc (.int .i64 1), .nils, .agg (sy (false, 0, 0))] [] (.tup [.nils, .sc (.int .i64 1)]) [] := by
  refine LCall.of_body Tryz.func33 c33_ok rfl (by show 4 ≤ Tryz.f33.ntmps; decide) ?_
  generalize hQ : (fun (e : Exit) (s' : St) => (e = .ret ∨ e = .normal) ∧ ∃ s'' own, Wk s' s'' ∧ Ends s'' [.slot 8, .slot 9] (.tup [.nils, .sc (.int .i64 1)]) [] [] own) = Q
  unfold c33
  refine AW.r fun K hK => ?_
  simp [r33_0, go_sem, cK, sy, sx, off]
  apply hK; clear hK K
  refine AW.q fun M hM => AW.r fun K hK => ?_
  simp [r33_1, go_sem]
  refine Stop.c (tables_no hv (.inr rfl)) [] 0 rfl ?_ trivial ?_ ?_ ?_
  · simp [go_sem, cK]
  · simp [go_sem, cK]
  · simp [go_sem]
  simp [go_sem]
  apply hK; clear hK K
  refine AW.d fun K hK => ?_
  simp [r33_2, go_sem]
  refine ⟨rfl, hK _ ?_⟩
  clear hK K
  refine AW.c rfl (fun h => ?_) (fun h => nomatch h)
  refine AW.r fun K hK => ?_
  simp [r33_3, go_sem]
  apply hK; clear hK K
  refine AW.ret ?_
  simp only [Exit.thenK]
  subst hQ
  refine ⟨.inl rfl, _, [], Wk.refl _, Ends.still trivial ?_ ?_ ?_ ?_⟩
  all_goals first | rfl | trivial | simp [go_sem]

/-- Keep, of no backup. -/
theorem keep_no {k : Int} (hv : ValidC k) (es : List (List AV)) (n : Nat) :
    LCall Tryz.prog 33 [cK k, .sc (.int .i64 1), .sl 1 4 0 n, .agg (sy (false, 0, 0))] [(1, .row 4 es)] (.tup [.nils, .sc (.int .i64 1)]) [(1, .row 4 es)] := by
  refine LCall.of_body Tryz.func33 c33_ok rfl (by show 4 ≤ Tryz.f33.ntmps; decide) ?_
  generalize hQ : (fun (e : Exit) (s' : St) => (e = .ret ∨ e = .normal) ∧ ∃ s'' own, Wk s' s'' ∧ Ends s'' [.slot 8, .slot 9] (.tup [.nils, .sc (.int .i64 1)]) [(1, .row 4 es)] [(1, .row 4 es)] own) = Q
  unfold c33
  refine AW.r fun K hK => ?_
  simp [r33_0, go_sem, cK, sy, sx, off]
  apply hK; clear hK K
  refine AW.q fun M hM => AW.r fun K hK => ?_
  simp [r33_1, go_sem]
  refine Stop.c (tables_no hv (.inr rfl)) [] 0 rfl ?_ trivial ?_ ?_ ?_
  · simp [go_sem, cK]
  · simp [go_sem, cK]
  · simp [go_sem]
  simp [go_sem]
  apply hK; clear hK K
  refine AW.d fun K hK => ?_
  simp [r33_2, go_sem]
  refine ⟨rfl, hK _ ?_⟩
  clear hK K
  refine AW.c rfl (fun h => ?_) (fun h => nomatch h)
  refine AW.r fun K hK => ?_
  simp [r33_3, go_sem]
  apply hK; clear hK K
  refine AW.ret ?_
  simp only [Exit.thenK]
  subst hQ
  refine ⟨.inl rfl, _, [], Wk.refl _, Ends.still trivial ?_ ?_ ?_ ?_⟩
  all_goals first | rfl | trivial | simp [go_sem]
end Go.Proofs.YtbmlhmgldipnhabGreatE

namespace Go.Proofs.YtbmlhmgldipnhabGreatE
open Go
attribute [-go_sem] nodeOf
theorem nodeOf_nil (sz : Nat) : nodeOf sz [] = .row sz [] := rfl
attribute [local go_sem] nodeOf_pl nodeOf_nil

/-- The reference's Keep, a day that is too early. -/
theorem rkeep_err {k : Int} (hv : ValidC k) (l : List Sn) (x s : Sn) (hn : l.length ≤ 1000) (hd : s.2.1 < x.2.1) :
    PCall Tryz.prog 34 [cK k, .sc (.int .i64 0), .fsl 4 ((l ++ [x]).map sy), .agg (sy s)] (.tup [.nils, .sc (.int .i64 1)]) := by
  refine LCall.of_body Tryz.func34 c34_ok rfl (by show 4 ≤ Tryz.f34.ntmps; decide) ?_
  generalize hQ : (fun (e : Exit) (s' : St) => (e = .ret ∨ e = .normal) ∧ ∃ s'' own, Wk s' s'' ∧ Ends s'' [.slot 8, .slot 9] (.tup [.nils, .sc (.int .i64 1)]) [] [] own) = Q
  obtain ⟨c, d, q⟩ := s
  obtain ⟨c', d', q'⟩ := x
  simp only at hd
  have hx : ((l ++ [(c', d', q')]).map sy)[l.length]? = some (sy (c', d', q')) := by simp
  have hlen : ((l ++ [(c', d', q')]).map sy).length = l.length + 1 := by simp
  generalize hes : (l ++ [(c', d', q')]).map sy = es at *
  generalize hnn : l.length = n at *
  have hw : IntKind.wrap .i64 ((n : Int) + 1 - 1) = n := by rw [show (n : Int) + 1 - 1 = n by omega]; exact wrap_i64 (by omega) (by omega)
  have hw' : IntKind.wrap .i64 (n : Int) = n := wrap_i64 (by omega) (by omega)
  have hlt : (n : Int) < n + 1 := by omega
  have hpos : (0 : Int) < n + 1 := by omega
  have hx2 : ∀ h : n < es.length, es[n] = sy (c', d', q') := fun h => by
    rw [List.getElem?_eq_getElem h] at hx
    exact Option.some.inj hx
  unfold c34
  refine AW.r fun K hK => ?_
  cases c <;> simp [r34_0, go_sem, cK, sy, sx, off]
  all_goals
    apply hK; clear hK K
    refine AW.q fun M hM => AW.d fun K hK => ?_
    simp [r34_1, go_sem]
    refine StopD.c (is_call hv) [] 0 rfl ?_ trivial ?_ ?_ ?_
    · simp [go_sem, cK]
    · simp [go_sem, cK]
    · simp [go_sem]
    simp [go_sem, hlen, hpos, hlt, hw, hw', hx, hx2, sy, sx, hd]
    refine ⟨rfl, hK _ ?_⟩
    clear hK K
    refine AW.c rfl (fun h => ?_) (fun h => nomatch h)
    refine AW.r fun K hK => ?_
    simp [r34_2, go_sem]
    apply hK; clear hK K
    refine AW.ret ?_
    simp only [Exit.thenK]
    subst hQ
    refine ⟨.inl rfl, _, [], Wk.refl _, Ends.still trivial ?_ ?_ ?_ ?_⟩
    all_goals first | rfl | trivial | simp [go_sem]

/-- The reference's Keep, a day that is late enough. -/
theorem rkeep_ok {k : Int} (hv : ValidC k) (l : List Sn) (s : Sn) (hn : l.length ≤ 1000) (hd : ∀ x, l[l.length - 1]? = some x → x.2.1 ≤ s.2.1) :
    PCall Tryz.prog 34 [cK k, .sc (.int .i64 0), .fsl 4 (l.map sy), .agg (sy s)] (.tup [.fsl 4 ((keepL l s).map sy), .sc (.int .i64 0)]) := by
  refine LCall.of_body Tryz.func34 c34_ok rfl (by show 4 ≤ Tryz.f34.ntmps; decide) ?_
  generalize hQ : (fun (e : Exit) (s' : St) => (e = .ret ∨ e = .normal) ∧ ∃ s'' own, Wk s' s'' ∧ Ends s'' [.slot 8, .slot 9] (.tup [.fsl 4 ((keepL l s).map sy), .sc (.int .i64 0)]) [] [] own) = Q
  obtain ⟨c, d, q⟩ := s
  simp only at hd
  have hkl : (l.map sy ++ [sy (c, d, q)]).drop (l.length - 7) = (keepL l (c, d, q)).map sy := by
    unfold keepL
    rw [List.map_drop, List.map_append]
    simp
  have hpl : ((l.map sy).all fun e => e.all AV.plain) = true := by
    have := sy_plain l 2000
    rwa [List.take_of_length_le (by simp; omega)] at this
  have hlen : (l.map sy).length = l.length := by simp
  have hx : l ≠ [] → ∃ cc dd qq, (l.map sy)[l.length - 1]? = some (sy (cc, dd, qq)) ∧ ¬ d < dd := fun hne => by
    have : 0 < l.length := List.length_pos_iff.2 hne
    obtain ⟨x, hx⟩ : ∃ x, l[l.length - 1]? = some x := ⟨_, List.getElem?_eq_getElem (by omega)⟩
    refine ⟨x.1, x.2.1, x.2.2, by simp [hx], ?_⟩
    have := hd x hx
    omega
  have hne : l ≠ [] → 0 < l.length := fun hne => List.length_pos_iff.2 hne
  have hnil : l = [] → l.length = 0 := fun h => by rw [h]; rfl
  have hkn : (keepL l (c, d, q)).length ≤ l.length + 1 := by
    unfold keepL
    simp
  generalize keepL l (c, d, q) = kl at *
  generalize hes : l.map sy = es at *
  generalize hnn : l.length = n at *
  have hw : IntKind.wrap .i64 ((n : Int) - 1) = (n : Int) - 1 := wrap_i64 (by omega) (by omega)
  have hw8 : IntKind.wrap .i64 ((n : Int) + 1 - 8) = (n : Int) + 1 - 8 := wrap_i64 (by omega) (by omega)
  have h64 : n * 64 ≤ 140737488355328 := by omega
  have h64' : (n + 1) * 64 ≤ 140737488355328 := by omega
  have hif : (if 8 < (n : Int) + 1 then (n : Int) + 1 - 8 else 0) = ((n - 7 : Nat) : Int) := by split <;> omega
  have hdn : n ≤ n + 1 + 7 := by omega
  have htk : List.take n es = es := List.take_of_length_le (by omega)
  have hkt : List.take (n + 1 - (n - 7)) (List.drop (n - 7) (es ++ [sy (c, d, q)])) = kl.map sy := by
    rw [hkl]
    refine List.take_of_length_le ?_
    rw [← hkl]
    simp
    omega
  unfold c34
  refine AW.r fun K hK => ?_
  generalize hcc : c = cc
  cases cc <;> simp [r34_0, go_sem, cK, sy, sx, off]
  all_goals
    apply hK; clear hK K
    refine AW.q fun M hM => AW.d fun K hK => ?_
    simp [r34_1, go_sem]
    refine StopD.c (is_call hv) [] 0 rfl ?_ trivial ?_ ?_ ?_
    · simp [go_sem, cK]
    · simp [go_sem, cK]
    · simp [go_sem]
    by_cases hl : l = []
    · have h0 : (n : Int) = 0 := by have := hnil hl; omega
      have hl0 : ¬ (0 : Int) < n := by omega
      simp [go_sem, hlen, h0]
      refine ⟨rfl, hK _ ?_⟩
      clear hK K
      refine AW.c rfl (fun h => nomatch h) (fun h => AW.done ?_)
      simp only [Exit.thenK]
      apply hM; clear hM M
      refine AW.d fun K hK => ?_
      simp [r34_3, go_sem, hlen, h64, h64', hpl, htk]
      refine ⟨rfl, hK _ ?_⟩
      clear hK K
      refine AW.r fun K hK => ?_
      simp [r34_4, go_sem, hlen, hw8, hif, hdn]
      apply hK; clear hK K
      refine AW.ret ?_
      subst hQ
      refine ⟨.inl rfl, _, [], Wk.fz _ [3800] 3, Ends.still trivial ?_ ?_ ?_ ?_⟩
      · simp [go_sem, hlen]
        rw [if_pos (by omega)]
        rw [hcc] at hkt
        exact congrArg (AV.fsl 4) hkt
      all_goals first | rfl | trivial | simp [go_sem]
    · obtain ⟨c', d', q', hx, hnd⟩ := hx hl
      have h1 : (0 : Int) < n := by have := hne hl; omega
      have h1' : 0 < n := hne hl
      have h1'' : (1 : Int) ≤ n := by omega
      have hlt : (n : Int) - 1 < n := by omega
      have h0' : (0 : Int) ≤ n - 1 := by omega
      simp [go_sem, hlen, h1, h1', h1'', hw, hlt, h0', hx, sy, sx, hnd]
      refine ⟨rfl, hK _ ?_⟩
      clear hK K
      refine AW.c rfl (fun h => nomatch h) (fun h => AW.done ?_)
      simp only [Exit.thenK]
      apply hM; clear hM M
      refine AW.d fun K hK => ?_
      simp [r34_3, go_sem, hlen, h64, h64', hpl, htk]
      refine ⟨rfl, hK _ ?_⟩
      clear hK K
      refine AW.r fun K hK => ?_
      simp [r34_4, go_sem, hlen, hw8, hif, hdn]
      apply hK; clear hK K
      refine AW.ret ?_
      subst hQ
      refine ⟨.inl rfl, _, [], Wk.fz _ [3800] 3, Ends.still trivial ?_ ?_ ?_ ?_⟩
      · simp [go_sem, hlen]
        rw [if_pos (by omega)]
        rw [hcc] at hkt
        exact congrArg (AV.fsl 4) hkt
      all_goals first | rfl | trivial | simp [go_sem]
end Go.Proofs.YtbmlhmgldipnhabGreatE

namespace Go.Proofs.YtbmlhmgldipnhabGreatE
open Go
attribute [-go_sem] nodeOf
attribute [local go_sem] nodeOf_pl nodeOf_nil

/-- The snapshots that Expire leaves. -/
def live (k day : Int) (x : Sn) : Bool := dayB x.2.1 && decide (day < x.2.1 + k)
def expL (k day : Int) (l : List Sn) : List Sn := l.filter (live k day)
/-- A list that is nil if it has no elements. -/
def lst (f : Sn → List AV) (l : List Sn) : AV := if l = [] then .nils else .fsl 4 (l.map f)

theorem expL_step {k day : Int} {l : List Sn} {i : Nat} {x : Sn} (hx : l[i]? = some x) : expL k day (l.take (i + 1)) = expL k day (l.take i) ++ if live k day x then [x] else [] := by
  unfold expL
  rw [List.take_add_one, hx, List.filter_append]
  cases h : live k day x <;> simp [h]

theorem rexpire_no {k : Int} (hv : ValidC k) (es : List (List AV)) (day : Int) (hd : dayB day = false) :
    PCall Tryz.prog 36 [cK k, .sc (.int .i64 0), .fsl 4 es, .sc (.int .i64 day)] .nils := by
  refine LCall.of_body Tryz.func36 c36_ok rfl (by show 4 ≤ Tryz.f36.ntmps; decide) ?_
  generalize hQ : (fun (e : Exit) (s' : St) => (e = .ret ∨ e = .normal) ∧ ∃ s'' own, Wk s' s'' ∧ Ends s'' [.slot 8] .nils [] [] own) = Q
  unfold c36
  refine AW.r fun K hK => ?_
  simp [r36_0, go_sem, cK]
  apply hK; clear hK K
  refine AW.r fun K hK => ?_
  simp [r36_1, go_sem]
  apply hK; clear hK K
  refine AW.q fun M hM => AW.r fun K hK => ?_
  simp [r36_2, go_sem]
  refine Stop.c (is_call hv) [] 0 rfl ?_ trivial ?_ ?_ ?_
  · simp [go_sem, cK]
  · simp [go_sem, cK]
  · simp [go_sem]
  have hd' : day < 0 ∨ (¬ day < 0 ∧ 1048576 < day) := by
    simp [dayB] at hd
    omega
  rcases hd' with h1 | ⟨h1, h2⟩ <;> simp [go_sem, *]
  all_goals
    apply hK; clear hK K
    refine AW.c rfl (fun h => ?_) (fun h => nomatch h)
    refine AW.r fun K hK => ?_
    simp [r36_3, go_sem]
    apply hK; clear hK K
    refine AW.ret ?_
    simp only [Exit.thenK]
    subst hQ
    refine ⟨.inl rfl, _, [], Wk.refl _, Ends.still trivial ?_ ?_ ?_ ?_⟩
    all_goals first | rfl | trivial | simp [go_sem]

theorem rexpire_call {k : Int} (hv : ValidC k) (hk : 1 ≤ k ∧ k ≤ 40) (l : List Sn) (hn : l.length ≤ 1000) (day : Int) (hd : dayB day = true) :
    PCall Tryz.prog 36 [cK k, .sc (.int .i64 0), .fsl 4 (l.map sy), .sc (.int .i64 day)] (lst sy (expL k day l)) := by
  refine LCall.of_body Tryz.func36 c36_ok rfl (by show 4 ≤ Tryz.f36.ntmps; decide) ?_
  generalize hQ : (fun (e : Exit) (s' : St) => (e = .ret ∨ e = .normal) ∧ ∃ s'' own, Wk s' s'' ∧ Ends s'' [.slot 8] (lst sy (expL k day l)) [] [] own) = Q
  have hlen : (l.map sy).length = l.length := by simp
  have hxs : ∀ (i : Nat) (x : Sn), l[i]? = some x → (l.map sy)[i]? = some (sy x) := fun i x h => by simp [h]
  generalize hes : l.map sy = es at *
  unfold c36
  refine AW.r fun K hK => ?_
  simp [r36_0, go_sem, cK]
  apply hK; clear hK K
  refine AW.r fun K hK => ?_
  simp [r36_1, go_sem]
  apply hK; clear hK K
  refine AW.q fun M hM => AW.r fun K hK => ?_
  simp [r36_2, go_sem]
  refine Stop.c (is_call hv) [] 0 rfl ?_ trivial ?_ ?_ ?_
  · simp [go_sem, cK]
  · simp [go_sem, cK]
  · simp [go_sem]
  have hd' : ¬ day < 0 ∧ ¬ 1048576 < day := by
    simp [dayB] at hd
    omega
  simp [go_sem, hd'.1, hd'.2]
  apply hK; clear hK K
  refine AW.c rfl (fun h => nomatch h) (fun h => AW.done ?_)
  simp only [Exit.thenK]
  apply hM; clear hM M
  refine AW.q fun M hM => AW.r fun K hK => ?_
  simp [r36_4, go_sem]
  apply hK; clear hK K
  refine AW.k fun M1 hM1 => ?_
  refine AW.l (fun n s => ∃ i, i + n = l.length ∧ ((expL k day (l.take i) = [] ∧ s = { env := [(1, .sc (.int .i64 0)), (2, .fsl 4 es), (3, .sc (.int .i64 day)), (4, .ptr 500 8 0 0), (9, .nils), (10, .sc (.int .i64 i))], obs := [(500, some (.row 8 [cC k]))], nm := [500] }) ∨
    (expL k day (l.take i) ≠ [] ∧ s = { env := [(1, .sc (.int .i64 0)), (2, .fsl 4 es), (3, .sc (.int .i64 day)), (4, .ptr 500 8 0 0), (9, .sl 90000 4 0 (expL k day (l.take i)).length), (10, .sc (.int .i64 i))], obs := [(500, some (.row 8 [cC k])), (90000, some (.row 4 ((expL k day (l.take i)).map sy)))], nm := [500, 90000] }))) l.length ?_ ?_
  · refine ⟨_, Wk.refl _, 0, by omega, .inl ⟨rfl, ?_⟩⟩
    simp [go_sem, cC, cK]
  · rintro n s ⟨i, hi, hs⟩ R hR
    have hw : IntKind.wrap .i64 ((i : Int) + 1) = (i : Int) + 1 := wrap_i64 (by omega) (by omega)
    have hml : (expL k day (l.take i)).length ≤ i := Nat.le_trans (List.length_filter_le ..) (by rw [List.length_take]; omega)
    have hmp : (((expL k day (l.take i)).map sy).all fun e => e.all AV.plain) = true := by
      have := sy_plain (expL k day (l.take i)) 2000
      rwa [List.take_of_length_le (by simp; omega)] at this
    by_cases hlt : i < l.length
    · obtain ⟨⟨c, d, q⟩, hx⟩ : ∃ x, l[i]? = some x := ⟨_, List.getElem?_eq_getElem hlt⟩
      have hst := expL_step (k := k) (day := day) hx
      have hx := hxs i _ hx
      have hx2 : ∀ h : i < es.length, es[i] = sy (c, d, q) := fun h => by
        rw [List.getElem?_eq_getElem h] at hx
        exact Option.some.inj hx
      have hR := hR (n - 1)
      have hi1 : n - 1 < n := by omega
      have hi2 : i + 1 + (n - 1) = l.length := by omega
      generalize hm0 : expL k day (l.take i) = m at *
      generalize hm1 : expL k day (l.take (i + 1)) = m' at *
      have hm64 : (m.length + 1) * 64 ≤ 140737488355328 := by omega
      have htm : List.take m.length (m.map sy) = m.map sy := List.take_of_length_le (by simp)
      rcases hs with ⟨hm, rfl⟩ | ⟨hm, rfl⟩
      all_goals
        refine AW.q fun M2 hM2 => AW.r fun K hK => ?_
        simp [r36_5, go_sem, hlen]
        apply hK; clear hK K
        refine AW.c rfl (fun h => AW.done ?_) (fun h => absurd h (by simpa using hlt))
        simp only [Exit.thenK]
        apply hM2; clear hM2 M2
        refine AW.q fun M2 hM2 => AW.k fun M3 hM3 => ?_
        refine AW.d fun K hK => ?_
        cases hlv : live k day (c, d, q) with
        | true =>
          have hlv' : 0 ≤ d ∧ d ≤ 1048576 ∧ day < d + k := by
            simp [live, dayB] at hlv
            omega
          obtain ⟨g1, g2, g3⟩ := hlv'
          have hwk : IntKind.wrap .i64 (d + k) = d + k := wrap_i64 (by omega) (by omega)
          simp [r36_7, go_sem, hlen, hlt, hx, hx2, sy, sx, g1, g2, g3, hwk, cC, cK]
          refine ⟨rfl, hK _ ?_⟩
          clear hK K
          refine AW.c rfl (fun h => ?_) (fun h => nomatch h)
          refine AW.r1 fun K hK => ?_
          cases c
          all_goals
            simp [r36_8, go_sem, hlen, hlt, hx, hx2, sy, sx, off, hm64, htm, hmp]
            apply hK; clear hK K
            simp only [Exit.thenK, Exit.inB]
            apply hM3
            simp only [Exit.thenK]
            apply hM2
            refine AW.r1 fun K hK => ?_
            simp [r36_6, go_sem, hw]
            apply hK; clear hK K
            simp only [Exit.thenK]
            simp only [hlv, if_true] at hst
            refine hR _ _ hi1 (Wk.take (ps := [(500, 500), (6600, 90000)]) ?_) ⟨i + 1, hi2, .inr ⟨?_, ?_⟩⟩
            · simp [go_sem, okTake]
            · rw [hm1, hst]; simp
            · rw [hm1, hst]; simp [go_sem, cC, cK, hm, sy, sx, off]
        | false =>
          have hlv' : ¬ 0 ≤ d ∨ (0 ≤ d ∧ ¬ d ≤ 1048576) ∨ (0 ≤ d ∧ d ≤ 1048576 ∧ ¬ day < d + k) := by
            simp [live, dayB] at hlv
            omega
          rcases hlv' with g1 | ⟨g1, g2⟩ | ⟨g1, g2, g3⟩
          · simp [r36_7, go_sem, hlen, hlt, hx, hx2, sy, sx, g1, cC, cK]
            refine ⟨rfl, hK _ ?_⟩
            clear hK K
            refine AW.c rfl (fun h => nomatch h) (fun h => AW.done ?_)
            simp only [Exit.thenK, Exit.inB]
            apply hM3
            simp only [Exit.thenK]
            apply hM2
            refine AW.r1 fun K hK => ?_
            simp [r36_6, go_sem, hw]
            apply hK; clear hK K
            simp only [Exit.thenK]
            simp [hlv] at hst
            first
            | refine hR _ _ hi1 (Wk.take (ps := [(500, 500)]) ?_) ⟨i + 1, hi2, .inl ⟨?_, ?_⟩⟩
              · simp [go_sem, okTake]; done
              · rw [hm1, hst]; exact hm
              · simp [go_sem, cC, cK]; done
            | refine hR _ _ hi1 (Wk.take (ps := [(500, 500), (90000, 90000)]) ?_) ⟨i + 1, hi2, .inr ⟨?_, ?_⟩⟩
              · simp [go_sem, okTake]; done
              · rw [hm1, hst]; exact hm
              · rw [hm1, hst]; simp [go_sem, cC, cK]
          · simp [r36_7, go_sem, hlen, hlt, hx, hx2, sy, sx, g1, g2, cC, cK]
            refine ⟨rfl, hK _ ?_⟩
            clear hK K
            refine AW.c rfl (fun h => nomatch h) (fun h => AW.done ?_)
            simp only [Exit.thenK, Exit.inB]
            apply hM3
            simp only [Exit.thenK]
            apply hM2
            refine AW.r1 fun K hK => ?_
            simp [r36_6, go_sem, hw]
            apply hK; clear hK K
            simp only [Exit.thenK]
            simp [hlv] at hst
            first
            | refine hR _ _ hi1 (Wk.take (ps := [(500, 500)]) ?_) ⟨i + 1, hi2, .inl ⟨?_, ?_⟩⟩
              · simp [go_sem, okTake]; done
              · rw [hm1, hst]; exact hm
              · simp [go_sem, cC, cK]; done
            | refine hR _ _ hi1 (Wk.take (ps := [(500, 500), (90000, 90000)]) ?_) ⟨i + 1, hi2, .inr ⟨?_, ?_⟩⟩
              · simp [go_sem, okTake]; done
              · rw [hm1, hst]; exact hm
              · rw [hm1, hst]; simp [go_sem, cC, cK]
          · have hwk : IntKind.wrap .i64 (d + k) = d + k := wrap_i64 (by omega) (by omega)
            simp [r36_7, go_sem, hlen, hlt, hx, hx2, sy, sx, g1, g2, g3, hwk, cC, cK]
            refine ⟨rfl, hK _ ?_⟩
            clear hK K
            refine AW.c rfl (fun h => nomatch h) (fun h => AW.done ?_)
            simp only [Exit.thenK, Exit.inB]
            apply hM3
            simp only [Exit.thenK]
            apply hM2
            refine AW.r1 fun K hK => ?_
            simp [r36_6, go_sem, hw]
            apply hK; clear hK K
            simp only [Exit.thenK]
            simp [hlv] at hst
            first
            | refine hR _ _ hi1 (Wk.take (ps := [(500, 500)]) ?_) ⟨i + 1, hi2, .inl ⟨?_, ?_⟩⟩
              · simp [go_sem, okTake]; done
              · rw [hm1, hst]; exact hm
              · simp [go_sem, cC, cK]; done
            | refine hR _ _ hi1 (Wk.take (ps := [(500, 500), (90000, 90000)]) ?_) ⟨i + 1, hi2, .inr ⟨?_, ?_⟩⟩
              · simp [go_sem, okTake]; done
              · rw [hm1, hst]; exact hm
              · rw [hm1, hst]; simp [go_sem, cC, cK]
    · have hil : i = l.length := by omega
      subst hil
      rw [List.take_of_length_le (Nat.le_refl _)] at hs hmp
      rcases hs with ⟨hm, rfl⟩ | ⟨hm, rfl⟩
      all_goals
        refine AW.q fun M2 hM2 => AW.r fun K hK => ?_
        simp [r36_5, go_sem, hlen]
        apply hK; clear hK K
        refine AW.c rfl (fun h => absurd h (by simp)) (fun h => AW.exit ?_)
        simp only [Exit.thenK, Exit.inB, if_true]
        apply hM1
        simp only [Exit.thenK]
        apply hM
        refine AW.r fun K hK => ?_
        simp [r36_9, go_sem]
        apply hK; clear hK K
        refine AW.ret ?_
        subst hQ
      · refine ⟨.inl rfl, _, [], Wk.refl _, Ends.still trivial ?_ ?_ ?_ ?_⟩
        all_goals first | rfl | trivial | simp [go_sem, lst, hm]
      · refine ⟨.inl rfl, _, [], Wk.fz _ [90000] 3, Ends.still trivial ?_ ?_ ?_ ?_⟩
        · simp [go_sem, lst, hm]
          exact List.take_of_length_le (by simp)
        · simp [go_sem, lst, hm]
        all_goals first | rfl | trivial | simp [go_sem, lst, hm]
end Go.Proofs.YtbmlhmgldipnhabGreatE

namespace Go.Proofs.YtbmlhmgldipnhabGreatE
open Go
attribute [-go_sem] nodeOf
attribute [local go_sem] nodeOf_pl nodeOf_nil


/-- Expire, a day out of range. -/
theorem expire_no {k : Int} (hv : ValidC k) (es : List (List AV)) (day : Int) (hd : dayB day = false) :
    PCall Tryz.prog 35 [cK k, .sc (.int .i64 0), .fsl 4 es, .sc (.int .i64 day)] .nils := by
  refine LCall.of_body Tryz.func35 c35_ok rfl (by show 4 ≤ Tryz.f35.ntmps; decide) ?_
  generalize hQ : (fun (e : Exit) (s' : St) => (e = .ret ∨ e = .normal) ∧ ∃ s'' own, Wk s' s'' ∧ Ends s'' [.slot 8] .nils [] [] own) = Q
  unfold c35
  refine AW.r fun K hK => ?_
  simp [r35_0, go_sem, cK]
  apply hK; clear hK K
  refine AW.q fun M hM => AW.r fun K hK => ?_
  simp [r35_1, go_sem]
  refine Stop.c (tables_call hv) [] 0 rfl ?_ trivial ?_ ?_ ?_
  · simp [go_sem, cK]
  · simp [go_sem, cK]
  · simp [go_sem]
  simp [go_sem]
  apply hK; clear hK K
  refine AW.r fun K hK => ?_
  simp [r35_2, go_sem]
  refine Stop.c (isDay_call day) [] 0 rfl ?_ trivial ?_ ?_ ?_
  · simp [go_sem]
  · simp [go_sem]
  · simp [go_sem]
  simp [go_sem, hd]
  apply hK; clear hK K
  refine AW.c rfl (fun h => ?_) (fun h => nomatch h)
  refine AW.r fun K hK => ?_
  simp [r35_3, go_sem]
  apply hK; clear hK K
  refine AW.ret ?_
  simp only [Exit.thenK]
  subst hQ
  refine ⟨.inl rfl, _, [], Wk.refl _, Ends.still trivial ?_ ?_ ?_ ?_⟩
  all_goals first | rfl | trivial | simp [go_sem]

/-- Expire, of no backup. -/
theorem expire_nob {k b : Int} (hv : ValidC k) (hb : b < 0) (es : List (List AV)) (day : Int) :
    PCall Tryz.prog 35 [cK k, .sc (.int .i64 b), .fsl 4 es, .sc (.int .i64 day)] .nils := by
  refine LCall.of_body Tryz.func35 c35_ok rfl (by show 4 ≤ Tryz.f35.ntmps; decide) ?_
  generalize hQ : (fun (e : Exit) (s' : St) => (e = .ret ∨ e = .normal) ∧ ∃ s'' own, Wk s' s'' ∧ Ends s'' [.slot 8] .nils [] [] own) = Q
  unfold c35
  refine AW.r fun K hK => ?_
  simp [r35_0, go_sem, cK]
  apply hK; clear hK K
  refine AW.q fun M hM => AW.r fun K hK => ?_
  simp [r35_1, go_sem]
  refine Stop.c (tables_no hv (.inl hb)) [] 0 rfl ?_ trivial ?_ ?_ ?_
  · simp [go_sem, cK]
  · simp [go_sem, cK]
  · simp [go_sem]
  simp [go_sem]
  apply hK; clear hK K
  refine AW.r fun K hK => ?_
  simp [r35_2, go_sem]
  refine Stop.skip rfl ?_
  simp [go_sem]
  apply hK; clear hK K
  refine AW.c rfl (fun h => ?_) (fun h => nomatch h)
  refine AW.r fun K hK => ?_
  simp [r35_3, go_sem]
  apply hK; clear hK K
  refine AW.ret ?_
  simp only [Exit.thenK]
  subst hQ
  refine ⟨.inl rfl, _, [], Wk.refl _, Ends.still trivial ?_ ?_ ?_ ?_⟩
  all_goals first | rfl | trivial | simp [go_sem]

theorem expire_call {k : Int} (hv : ValidC k) (hk : 1 ≤ k ∧ k ≤ 40) (l : List Sn) (hn : l.length ≤ 1000) (day : Int) (hd : dayB day = true) :
    PCall Tryz.prog 35 [cK k, .sc (.int .i64 0), .fsl 4 (l.map sy), .sc (.int .i64 day)] (lst scl (expL k day l)) := by
  refine LCall.of_body Tryz.func35 c35_ok rfl (by show 4 ≤ Tryz.f35.ntmps; decide) ?_
  generalize hQ : (fun (e : Exit) (s' : St) => (e = .ret ∨ e = .normal) ∧ ∃ s'' own, Wk s' s'' ∧ Ends s'' [.slot 8] (lst scl (expL k day l)) [] [] own) = Q
  have hlen : (l.map sy).length = l.length := by simp
  have hxs : ∀ (i : Nat) (x : Sn), l[i]? = some x → (l.map sy)[i]? = some (sy x) := fun i x h => by simp [h]
  generalize hes : l.map sy = es at *
  unfold c35
  refine AW.r fun K hK => ?_
  simp [r35_0, go_sem, cK]
  apply hK; clear hK K
  refine AW.q fun M hM => AW.r fun K hK => ?_
  simp [r35_1, go_sem]
  refine Stop.c (tables_call hv) [] 0 rfl ?_ trivial ?_ ?_ ?_
  · simp [go_sem, cK]
  · simp [go_sem, cK]
  · simp [go_sem]
  simp [go_sem]
  apply hK; clear hK K
  refine AW.r fun K hK => ?_
  simp [r35_2, go_sem]
  refine Stop.c (isDay_call day) [] 0 rfl ?_ trivial ?_ ?_ ?_
  · simp [go_sem]
  · simp [go_sem]
  · simp [go_sem]
  simp [go_sem, hd]
  apply hK; clear hK K
  refine AW.c rfl (fun h => nomatch h) (fun h => AW.done ?_)
  simp only [Exit.thenK]
  apply hM; clear hM M
  refine AW.r fun K hK => ?_
  simp [r35_4, go_sem]
  apply hK; clear hK K
  refine AW.q fun M hM => AW.r fun K hK => ?_
  simp [r35_5, go_sem]
  apply hK; clear hK K
  refine AW.k fun M1 hM1 => ?_
  refine AW.l (fun n s => ∃ i, i + n = l.length ∧ ((expL k day (l.take i) = [] ∧ s = { env := [(1, .sc (.int .i64 0)), (2, .fsl 4 es), (3, .sc (.int .i64 day)), (4, .ptr 500 8 0 0), (11, .nils), (12, .sc (.int .i64 i))], obs := [(500, some (.row 8 [cC k]))], nm := [500] }) ∨
    (expL k day (l.take i) ≠ [] ∧ s = { env := [(1, .sc (.int .i64 0)), (2, .fsl 4 es), (3, .sc (.int .i64 day)), (4, .ptr 500 8 0 0), (11, .sl 90000 4 0 (expL k day (l.take i)).length), (12, .sc (.int .i64 i))], obs := [(500, some (.row 8 [cC k])), (90000, some (.row 4 ((expL k day (l.take i)).map sy)))], nm := [500, 90000] }))) l.length ?_ ?_
  · refine ⟨_, Wk.refl _, 0, by omega, .inl ⟨rfl, ?_⟩⟩
    simp [go_sem, cC, cK]
  · rintro n s ⟨i, hi, hs⟩ R hR
    have hw : IntKind.wrap .i64 ((i : Int) + 1) = (i : Int) + 1 := wrap_i64 (by omega) (by omega)
    have hml : (expL k day (l.take i)).length ≤ i := Nat.le_trans (List.length_filter_le ..) (by rw [List.length_take]; omega)
    have hmp : (((expL k day (l.take i)).map sy).all fun e => e.all AV.plain) = true := by
      have := sy_plain (expL k day (l.take i)) 2000
      rwa [List.take_of_length_le (by simp; omega)] at this
    by_cases hlt : i < l.length
    · obtain ⟨⟨c, d, q⟩, hx⟩ : ∃ x, l[i]? = some x := ⟨_, List.getElem?_eq_getElem hlt⟩
      have hst := expL_step (k := k) (day := day) hx
      have hx := hxs i _ hx
      have hx2 : ∀ h : i < es.length, es[i] = sy (c, d, q) := fun h => by
        rw [List.getElem?_eq_getElem h] at hx
        exact Option.some.inj hx
      have hR := hR (n - 1)
      have hi1 : n - 1 < n := by omega
      have hi2 : i + 1 + (n - 1) = l.length := by omega
      generalize hm0 : expL k day (l.take i) = m at *
      generalize hm1 : expL k day (l.take (i + 1)) = m' at *
      have hm64 : (m.length + 1) * 64 ≤ 140737488355328 := by omega
      have htm : List.take m.length (m.map sy) = m.map sy := List.take_of_length_le (by simp)
      rcases hs with ⟨hm, rfl⟩ | ⟨hm, rfl⟩
      all_goals
        refine AW.q fun M2 hM2 => AW.r fun K hK => ?_
        simp [r35_6, go_sem, hlen]
        apply hK; clear hK K
        refine AW.c rfl (fun h => AW.done ?_) (fun h => absurd h (by simpa using hlt))
        simp only [Exit.thenK]
        apply hM2; clear hM2 M2
        refine AW.q fun M2 hM2 => AW.k fun M3 hM3 => ?_
        refine AW.d fun K hK => ?_
        have hdd : dayB d = (decide (0 ≤ d) && decide (d ≤ 1048576)) := rfl
        cases hlv : live k day (c, d, q) with
        | true =>
          have hlv' : 0 ≤ d ∧ d ≤ 1048576 ∧ day < d + k := by
            simp [live, dayB] at hlv
            omega
          obtain ⟨g1, g2, g3⟩ := hlv'
          have hdb : dayB d = true := by rw [hdd]; simp [g1, g2]
          have hwk : IntKind.wrap .i64 (d + k) = d + k := wrap_i64 (by omega) (by omega)
          simp [r35_8, go_sem, hlen, hlt, hx, hx2, sy, sx]
          refine StopD.c (isDay_call d) [] 0 rfl ?_ trivial ?_ ?_ ?_
          · simp [go_sem]
          · simp [go_sem]
          · simp [go_sem]
          simp [go_sem, hlen, hlt, hx, hx2, sy, sx, g1, g2, g3, hwk, cC, cK, hdb]
          refine ⟨rfl, hK _ ?_⟩
          clear hK K
          refine AW.c rfl (fun h => ?_) (fun h => nomatch h)
          refine AW.r1 fun K hK => ?_
          cases c
          all_goals
            simp [r35_9, go_sem, hlen, hlt, hx, hx2, sy, sx, off, hm64, htm, hmp]
            apply hK; clear hK K
            simp only [Exit.thenK, Exit.inB]
            apply hM3
            simp only [Exit.thenK]
            apply hM2
            refine AW.r1 fun K hK => ?_
            simp [r35_7, go_sem, hw]
            apply hK; clear hK K
            simp only [Exit.thenK]
            simp only [hlv, if_true] at hst
            refine hR _ _ hi1 (Wk.take (ps := [(500, 500), (6100, 90000)]) ?_) ⟨i + 1, hi2, .inr ⟨?_, ?_⟩⟩
            · simp [go_sem, okTake]
            · rw [hm1, hst]; simp
            · rw [hm1, hst]; simp [go_sem, cC, cK, hm, sy, sx, off]
        | false =>
          have hlv' : ¬ 0 ≤ d ∨ (0 ≤ d ∧ ¬ d ≤ 1048576) ∨ (0 ≤ d ∧ d ≤ 1048576 ∧ ¬ day < d + k) := by
            simp [live, dayB] at hlv
            omega
          rcases hlv' with g1 | ⟨g1, g2⟩ | ⟨g1, g2, g3⟩
          · have hdb : dayB d = false := by rw [hdd]; simp [g1]
            simp [r35_8, go_sem, hlen, hlt, hx, hx2, sy, sx]
            refine StopD.c (isDay_call d) [] 0 rfl ?_ trivial ?_ ?_ ?_
            · simp [go_sem]
            · simp [go_sem]
            · simp [go_sem]
            simp [go_sem, hlen, hlt, hx, hx2, sy, sx, g1, cC, cK, hdb]
            refine ⟨rfl, hK _ ?_⟩
            clear hK K
            refine AW.c rfl (fun h => nomatch h) (fun h => AW.done ?_)
            simp only [Exit.thenK, Exit.inB]
            apply hM3
            simp only [Exit.thenK]
            apply hM2
            refine AW.r1 fun K hK => ?_
            simp [r35_7, go_sem, hw]
            apply hK; clear hK K
            simp only [Exit.thenK]
            simp [hlv] at hst
            first
            | refine hR _ _ hi1 (Wk.take (ps := [(500, 500)]) ?_) ⟨i + 1, hi2, .inl ⟨?_, ?_⟩⟩
              · simp [go_sem, okTake]; done
              · rw [hm1, hst]; exact hm
              · simp [go_sem, cC, cK]; done
            | refine hR _ _ hi1 (Wk.take (ps := [(500, 500), (90000, 90000)]) ?_) ⟨i + 1, hi2, .inr ⟨?_, ?_⟩⟩
              · simp [go_sem, okTake]; done
              · rw [hm1, hst]; exact hm
              · rw [hm1, hst]; simp [go_sem, cC, cK]
          · have hdb : dayB d = false := by rw [hdd]; simp [g1, g2]
            simp [r35_8, go_sem, hlen, hlt, hx, hx2, sy, sx]
            refine StopD.c (isDay_call d) [] 0 rfl ?_ trivial ?_ ?_ ?_
            · simp [go_sem]
            · simp [go_sem]
            · simp [go_sem]
            simp [go_sem, hlen, hlt, hx, hx2, sy, sx, g1, g2, cC, cK, hdb]
            refine ⟨rfl, hK _ ?_⟩
            clear hK K
            refine AW.c rfl (fun h => nomatch h) (fun h => AW.done ?_)
            simp only [Exit.thenK, Exit.inB]
            apply hM3
            simp only [Exit.thenK]
            apply hM2
            refine AW.r1 fun K hK => ?_
            simp [r35_7, go_sem, hw]
            apply hK; clear hK K
            simp only [Exit.thenK]
            simp [hlv] at hst
            first
            | refine hR _ _ hi1 (Wk.take (ps := [(500, 500)]) ?_) ⟨i + 1, hi2, .inl ⟨?_, ?_⟩⟩
              · simp [go_sem, okTake]; done
              · rw [hm1, hst]; exact hm
              · simp [go_sem, cC, cK]; done
            | refine hR _ _ hi1 (Wk.take (ps := [(500, 500), (90000, 90000)]) ?_) ⟨i + 1, hi2, .inr ⟨?_, ?_⟩⟩
              · simp [go_sem, okTake]; done
              · rw [hm1, hst]; exact hm
              · rw [hm1, hst]; simp [go_sem, cC, cK]
          · have hdb : dayB d = true := by rw [hdd]; simp [g1, g2]
            have hwk : IntKind.wrap .i64 (d + k) = d + k := wrap_i64 (by omega) (by omega)
            simp [r35_8, go_sem, hlen, hlt, hx, hx2, sy, sx]
            refine StopD.c (isDay_call d) [] 0 rfl ?_ trivial ?_ ?_ ?_
            · simp [go_sem]
            · simp [go_sem]
            · simp [go_sem]
            simp [go_sem, hlen, hlt, hx, hx2, sy, sx, g1, g2, g3, hwk, cC, cK, hdb]
            refine ⟨rfl, hK _ ?_⟩
            clear hK K
            refine AW.c rfl (fun h => nomatch h) (fun h => AW.done ?_)
            simp only [Exit.thenK, Exit.inB]
            apply hM3
            simp only [Exit.thenK]
            apply hM2
            refine AW.r1 fun K hK => ?_
            simp [r35_7, go_sem, hw]
            apply hK; clear hK K
            simp only [Exit.thenK]
            simp [hlv] at hst
            first
            | refine hR _ _ hi1 (Wk.take (ps := [(500, 500)]) ?_) ⟨i + 1, hi2, .inl ⟨?_, ?_⟩⟩
              · simp [go_sem, okTake]; done
              · rw [hm1, hst]; exact hm
              · simp [go_sem, cC, cK]; done
            | refine hR _ _ hi1 (Wk.take (ps := [(500, 500), (90000, 90000)]) ?_) ⟨i + 1, hi2, .inr ⟨?_, ?_⟩⟩
              · simp [go_sem, okTake]; done
              · rw [hm1, hst]; exact hm
              · rw [hm1, hst]; simp [go_sem, cC, cK]
    · have hil : i = l.length := by omega
      subst hil
      rw [List.take_of_length_le (Nat.le_refl _)] at hs hmp hml
      have hcl := fun h => clone_call (expL k day l) h (by omega)
      have hpk : (((expL k day l).map scl).all fun e => e.all AV.plain) = true := by
        have := scl_plain (expL k day l) 2000
        rwa [List.take_of_length_le (by simp; omega)] at this
      rcases hs with ⟨hm, rfl⟩ | ⟨hm, rfl⟩
      all_goals
        refine AW.q fun M2 hM2 => AW.r fun K hK => ?_
        simp [r35_6, go_sem, hlen]
        apply hK; clear hK K
        refine AW.c rfl (fun h => absurd h (by simp)) (fun h => AW.exit ?_)
        simp only [Exit.thenK, Exit.inB, if_true]
        apply hM1
        simp only [Exit.thenK]
        apply hM
        refine AW.r fun K hK => ?_
        simp [r35_10, go_sem]
      · refine Stop.c clone_nil [] 0 rfl ?_ trivial ?_ ?_ ?_
        · simp [go_sem]
        · simp [go_sem]
        · simp [go_sem]
        simp [go_sem]
        apply hK; clear hK K
        refine AW.ret ?_
        subst hQ
        refine ⟨.inl rfl, _, [], Wk.refl _, Ends.still trivial ?_ ?_ ?_ ?_⟩
        all_goals first | rfl | trivial | simp [go_sem, lst, hm]
      · refine Stop.c (hcl hm) [90000] 2 rfl ?_ trivial ?_ ?_ ?_
        · simp [go_sem]
          exact List.take_of_length_le (by simp)
        · simp [go_sem, hpk]
        · simp [go_sem]
        simp [go_sem, hpk]
        apply hK; clear hK K
        refine AW.ret ?_
        subst hQ
        refine ⟨.inl rfl, _, [], Wk.fz _ [6300] 3, Ends.still trivial ?_ ?_ ?_ ?_⟩
        · simp [go_sem, lst, hm]
          exact List.take_of_length_le (by simp)
        · simp [go_sem, lst, hm]
        all_goals first | rfl | trivial | simp [go_sem, lst, hm]
end Go.Proofs.YtbmlhmgldipnhabGreatE

namespace Go.Proofs.YtbmlhmgldipnhabGreatE
open Go
attribute [-go_sem] nodeOf
attribute [local go_sem] nodeOf_pl nodeOf_nil

theorem ints_call (c : Bool) : PCall Tryz.prog 91 [.fsl 1 [], off c] (.sc (.bool true)) := by
  cases c
  · exact evG_sound tbl_good noB_good (n := 1000) (by kernel_rfl)
  · exact evG_sound tbl_good noB_good (n := 1000) (by kernel_rfl)

/-- SameSnapshot, of a snapshot and its copy. -/
theorem same_call (c c' : Bool) (d q : Int) : PCall Tryz.prog 37 [.agg (scl (c, d, q)), .agg (sy (c', d, q))] (.sc (.bool true)) := by
  refine LCall.of_body Tryz.func37 c37_ok rfl (by show 2 ≤ Tryz.f37.ntmps; decide) ?_
  generalize hQ : (fun (e : Exit) (s' : St) => (e = .ret ∨ e = .normal) ∧ ∃ s'' own, Wk s' s'' ∧ Ends s'' [.slot 4] (.sc (.bool true)) [] [] own) = Q
  have hi := ints_call c'
  unfold c37
  refine AW.r fun K hK => ?_
  cases c' <;> simp [r37_0, go_sem, scl, cl, sy, sx, off]
  all_goals
    apply hK; clear hK K
    refine AW.q fun M hM => AW.r fun K hK => ?_
    simp [r37_1, go_sem]
    refine Stop.c hi [] 0 rfl ?_ trivial ?_ ?_ ?_
    · simp [go_sem, off]
    · simp [go_sem, off]
    · simp [go_sem]
    simp [go_sem]
    apply hK; clear hK K
    refine AW.c rfl (fun h => nomatch h) (fun h => AW.done ?_)
    simp only [Exit.thenK]
    apply hM; clear hM M
    refine AW.q fun M hM => AW.r fun K hK => ?_
    simp [r37_3, go_sem]
    apply hK; clear hK K
    refine AW.k fun M1 hM1 => ?_
    refine AW.l (fun n s => s = _) 0 ⟨_, Wk.refl _, rfl⟩ ?_
    rintro n s rfl R hR
    refine AW.q fun M2 hM2 => AW.r fun K hK => ?_
    simp [r37_4, go_sem]
    apply hK; clear hK K
    refine AW.c rfl (fun h => nomatch h) (fun h => AW.exit ?_)
    simp only [Exit.thenK, Exit.inB, if_true]
    apply hM1
    simp only [Exit.thenK]
    apply hM
    refine AW.r fun K hK => ?_
    simp [r37_19, go_sem]
    apply hK; clear hK K
    refine AW.ret ?_
    subst hQ
    refine ⟨.inl rfl, _, [], Wk.refl _, Ends.still trivial ?_ ?_ ?_ ?_⟩
    all_goals first | rfl | trivial | simp [go_sem]
end Go.Proofs.YtbmlhmgldipnhabGreatE

namespace Go.Proofs.YtbmlhmgldipnhabGreatE
open Go
attribute [-go_sem] nodeOf
attribute [local go_sem] nodeOf_pl nodeOf_nil

theorem awake_call : PCall Tryz.prog 32 [] (.sc (.bool true)) := evG_sound tbl_good B1_good tA

theorem validC {k : Int} (h1 : 1 ≤ k) (h2 : k ≤ 40) : ValidC k := by
  have h : k = 1 ∨ k = 2 ∨ k = 3 ∨ k = 4 ∨ k = 5 ∨ k = 6 ∨ k = 7 ∨ k = 8 ∨ k = 9 ∨ k = 10 ∨ k = 11 ∨ k = 12 ∨ k = 13 ∨ k = 14 ∨ k = 15 ∨ k = 16 ∨ k = 17 ∨ k = 18 ∨ k = 19 ∨ k = 20 ∨ k = 21 ∨ k = 22 ∨ k = 23 ∨ k = 24 ∨ k = 25 ∨ k = 26 ∨ k = 27 ∨ k = 28 ∨ k = 29 ∨ k = 30 ∨ k = 31 ∨ k = 32 ∨ k = 33 ∨ k = 34 ∨ k = 35 ∨ k = 36 ∨ k = 37 ∨ k = 38 ∨ k = 39 ∨ k = 40 := by omega
  rcases h with rfl | rfl | rfl | rfl | rfl | rfl | rfl | rfl | rfl | rfl | rfl | rfl | rfl | rfl | rfl | rfl | rfl | rfl | rfl | rfl | rfl | rfl | rfl | rfl | rfl | rfl | rfl | rfl | rfl | rfl | rfl | rfl | rfl | rfl | rfl | rfl | rfl | rfl | rfl | rfl
  · exact ⟨evG_sound tbl_good noB_good v71_1, evG_sound tbl_good noB_good v73_1⟩
  · exact ⟨evG_sound tbl_good noB_good v71_2, evG_sound tbl_good noB_good v73_2⟩
  · exact ⟨evG_sound tbl_good noB_good v71_3, evG_sound tbl_good noB_good v73_3⟩
  · exact ⟨evG_sound tbl_good noB_good v71_4, evG_sound tbl_good noB_good v73_4⟩
  · exact ⟨evG_sound tbl_good noB_good v71_5, evG_sound tbl_good noB_good v73_5⟩
  · exact ⟨evG_sound tbl_good noB_good v71_6, evG_sound tbl_good noB_good v73_6⟩
  · exact ⟨evG_sound tbl_good noB_good v71_7, evG_sound tbl_good noB_good v73_7⟩
  · exact ⟨evG_sound tbl_good noB_good v71_8, evG_sound tbl_good noB_good v73_8⟩
  · exact ⟨evG_sound tbl_good noB_good v71_9, evG_sound tbl_good noB_good v73_9⟩
  · exact ⟨evG_sound tbl_good noB_good v71_10, evG_sound tbl_good noB_good v73_10⟩
  · exact ⟨evG_sound tbl_good noB_good v71_11, evG_sound tbl_good noB_good v73_11⟩
  · exact ⟨evG_sound tbl_good noB_good v71_12, evG_sound tbl_good noB_good v73_12⟩
  · exact ⟨evG_sound tbl_good noB_good v71_13, evG_sound tbl_good noB_good v73_13⟩
  · exact ⟨evG_sound tbl_good noB_good v71_14, evG_sound tbl_good noB_good v73_14⟩
  · exact ⟨evG_sound tbl_good noB_good v71_15, evG_sound tbl_good noB_good v73_15⟩
  · exact ⟨evG_sound tbl_good noB_good v71_16, evG_sound tbl_good noB_good v73_16⟩
  · exact ⟨evG_sound tbl_good noB_good v71_17, evG_sound tbl_good noB_good v73_17⟩
  · exact ⟨evG_sound tbl_good noB_good v71_18, evG_sound tbl_good noB_good v73_18⟩
  · exact ⟨evG_sound tbl_good noB_good v71_19, evG_sound tbl_good noB_good v73_19⟩
  · exact ⟨evG_sound tbl_good noB_good v71_20, evG_sound tbl_good noB_good v73_20⟩
  · exact ⟨evG_sound tbl_good noB_good v71_21, evG_sound tbl_good noB_good v73_21⟩
  · exact ⟨evG_sound tbl_good noB_good v71_22, evG_sound tbl_good noB_good v73_22⟩
  · exact ⟨evG_sound tbl_good noB_good v71_23, evG_sound tbl_good noB_good v73_23⟩
  · exact ⟨evG_sound tbl_good noB_good v71_24, evG_sound tbl_good noB_good v73_24⟩
  · exact ⟨evG_sound tbl_good noB_good v71_25, evG_sound tbl_good noB_good v73_25⟩
  · exact ⟨evG_sound tbl_good noB_good v71_26, evG_sound tbl_good noB_good v73_26⟩
  · exact ⟨evG_sound tbl_good noB_good v71_27, evG_sound tbl_good noB_good v73_27⟩
  · exact ⟨evG_sound tbl_good noB_good v71_28, evG_sound tbl_good noB_good v73_28⟩
  · exact ⟨evG_sound tbl_good noB_good v71_29, evG_sound tbl_good noB_good v73_29⟩
  · exact ⟨evG_sound tbl_good noB_good v71_30, evG_sound tbl_good noB_good v73_30⟩
  · exact ⟨evG_sound tbl_good noB_good v71_31, evG_sound tbl_good noB_good v73_31⟩
  · exact ⟨evG_sound tbl_good noB_good v71_32, evG_sound tbl_good noB_good v73_32⟩
  · exact ⟨evG_sound tbl_good noB_good v71_33, evG_sound tbl_good noB_good v73_33⟩
  · exact ⟨evG_sound tbl_good noB_good v71_34, evG_sound tbl_good noB_good v73_34⟩
  · exact ⟨evG_sound tbl_good noB_good v71_35, evG_sound tbl_good noB_good v73_35⟩
  · exact ⟨evG_sound tbl_good noB_good v71_36, evG_sound tbl_good noB_good v73_36⟩
  · exact ⟨evG_sound tbl_good noB_good v71_37, evG_sound tbl_good noB_good v73_37⟩
  · exact ⟨evG_sound tbl_good noB_good v71_38, evG_sound tbl_good noB_good v73_38⟩
  · exact ⟨evG_sound tbl_good noB_good v71_39, evG_sound tbl_good noB_good v73_39⟩
  · exact ⟨evG_sound tbl_good noB_good v71_40, evG_sound tbl_good noB_good v73_40⟩

/-- The contracts of Keep at the law's name of its list. -/
theorem keep_ok' {k : Int} (hv : ValidC k) (l : List Sn) (x s : Sn) (hn : l.length ≤ 1000) (hd : x.2.1 ≤ s.2.1) :
    LCall Tryz.prog 33 [cK k, .sc (.int .i64 0), .sl 90000 4 0 (l.length + 1), .agg (sy s)] [(90000, .row 4 ((l ++ [x]).map sy))] (.tup [.own 4 ((keepL (l ++ [x]) s).map scl), .sc (.int .i64 0)]) [] := by
  have hpk : (((keepL (l ++ [x]) s).map scl).all fun e => e.all AV.plain) = true := by
    have := scl_plain (keepL (l ++ [x]) s) (keepL (l ++ [x]) s).length
    rwa [List.take_of_length_le (by simp)] at this
  have h := LCall.ren (keep_ok hv l x s hn hd) (fun _ => 90000) (fun _ => 1) (by simp [keys]) (by simp [go_sem, cK, sy_names]) ?_
  · simp [rens, AV.ren, renKeys, cK, sy_ren] at h
    simpa [cK] using h
  · simp [okRen, go_sem, hpk]
theorem keep_err' {k : Int} (hv : ValidC k) (l : List Sn) (x s : Sn) (hn : l.length ≤ 1000) (hd : s.2.1 < x.2.1) :
    LCall Tryz.prog 33 [cK k, .sc (.int .i64 0), .sl 90000 4 0 (l.length + 1), .agg (sy s)] [(90000, .row 4 ((l ++ [x]).map sy))] (.tup [.nils, .sc (.int .i64 1)]) [(90000, .row 4 ((l ++ [x]).map sy))] := by
  have h := LCall.ren (keep_err hv l x s hn hd) (fun _ => 90000) (fun _ => 1) (by simp [keys]) (by simp [go_sem, cK, sy_names]) ?_
  · simp [rens, AV.ren, renKeys, cK, sy_ren] at h
    simpa [cK] using h
  · simp [okRen, go_sem]
theorem keep_no' {k : Int} (hv : ValidC k) (es : List (List AV)) (n : Nat) :
    LCall Tryz.prog 33 [cK k, .sc (.int .i64 1), .sl 90000 4 0 n, .agg (sy (false, 0, 0))] [(90000, .row 4 es)] (.tup [.nils, .sc (.int .i64 1)]) [(90000, .row 4 es)] := by
  have h := LCall.ren (keep_no hv es n) (fun _ => 90000) (fun _ => 1) (by simp [keys]) (by simp [go_sem, cK, sy_names]) ?_
  · simp [rens, AV.ren, renKeys, cK, sy_ren] at h
    simpa [cK] using h
  · simp [okRen, go_sem]
end Go.Proofs.YtbmlhmgldipnhabGreatE

namespace Go.Proofs.YtbmlhmgldipnhabGreatE
open Go
attribute [-go_sem] nodeOf
attribute [local go_sem] nodeOf_pl nodeOf_nil

/-- Keep, of no backup, a list that stands still. -/
theorem keep_nof {k : Int} (hv : ValidC k) (es : List (List AV)) :
    LCall Tryz.prog 33 [cK k, .sc (.int .i64 1), .fsl 4 es, .agg (sy (false, 0, 0))] [] (.tup [.nils, .sc (.int .i64 1)]) [] := by
  refine LCall.of_body Tryz.func33 c33_ok rfl (by show 4 ≤ Tryz.f33.ntmps; decide) ?_
  generalize hQ : (fun (e : Exit) (s' : St) => (e = .ret ∨ e = .normal) ∧ ∃ s'' own, Wk s' s'' ∧ Ends s'' [.slot 8, .slot 9] (.tup [.nils, .sc (.int .i64 1)]) [] [] own) = Q
  unfold c33
  refine AW.r fun K hK => ?_
  simp [r33_0, go_sem, cK, sy, sx, off]
  apply hK; clear hK K
  refine AW.q fun M hM => AW.r fun K hK => ?_
  simp [r33_1, go_sem]
  refine Stop.c (tables_no hv (.inr rfl)) [] 0 rfl ?_ trivial ?_ ?_ ?_
  · simp [go_sem, cK]
  · simp [go_sem, cK]
  · simp [go_sem]
  simp [go_sem]
  apply hK; clear hK K
  refine AW.d fun K hK => ?_
  simp [r33_2, go_sem]
  refine ⟨rfl, hK _ ?_⟩
  clear hK K
  refine AW.c rfl (fun h => ?_) (fun h => nomatch h)
  refine AW.r fun K hK => ?_
  simp [r33_3, go_sem]
  apply hK; clear hK K
  refine AW.ret ?_
  simp only [Exit.thenK]
  subst hQ
  refine ⟨.inl rfl, _, [], Wk.refl _, Ends.still trivial ?_ ?_ ?_ ?_⟩
  all_goals first | rfl | trivial | simp [go_sem]


/-- What the lists of the two sides have to do with each other. -/
def twin (a b : List Sn) : Prop := a.map (·.2) = b.map (·.2)
theorem twin.len {a b : List Sn} (h : twin a b) : b.length = a.length := by
  have := congrArg List.length h
  simp at this
  exact this.symm

def exp (k day : Int) (l : List Sn) : List Sn := if dayB day then expL k day l else []
theorem expL_map (k day : Int) : ∀ a : List Sn, (expL k day a).map (·.2) = (a.map (·.2)).filter fun y => dayB y.1 && decide (day < y.1 + k)
  | [] => rfl
  | x :: a => by
    have ih := expL_map k day a
    unfold expL at ih ⊢
    simp only [List.filter_cons, List.map_cons]
    have : live k day x = (dayB x.2.1 && decide (day < x.2.1 + k)) := rfl
    rw [this]
    cases (dayB x.2.1 && decide (day < x.2.1 + k)) <;> simp [ih]
theorem twin.exp {a b : List Sn} (h : twin a b) (k day : Int) : twin (exp k day a) (exp k day b) := by
  unfold Go.Proofs.YtbmlhmgldipnhabGreatE.exp
  cases dayB day with
  | false => rfl
  | true =>
    show (expL k day a).map (·.2) = (expL k day b).map (·.2)
    rw [expL_map, expL_map, show a.map (·.2) = b.map (·.2) from h]
theorem exp_len (k day : Int) (a : List Sn) : (exp k day a).length ≤ a.length := by
  unfold exp
  split
  · exact List.length_filter_le ..
  · simp
theorem expire_all {k : Int} (hv : ValidC k) (hk : 1 ≤ k ∧ k ≤ 40) (l : List Sn) (hn : l.length ≤ 1000) (day : Int) : PCall Tryz.prog 35 [cK k, .sc (.int .i64 0), .fsl 4 (l.map sy), .sc (.int .i64 day)] (lst scl (exp k day l)) := by
  unfold exp
  cases hd : dayB day with
  | false => exact expire_no hv _ day hd
  | true => exact expire_call hv hk l hn day hd
theorem rexpire_all {k : Int} (hv : ValidC k) (hk : 1 ≤ k ∧ k ≤ 40) (l : List Sn) (hn : l.length ≤ 1000) (day : Int) : PCall Tryz.prog 36 [cK k, .sc (.int .i64 0), .fsl 4 (l.map sy), .sc (.int .i64 day)] (lst sy (exp k day l)) := by
  unfold exp
  cases hd : dayB day with
  | false => exact rexpire_no hv _ day hd
  | true => exact rexpire_call hv hk l hn day hd

/-- The law's code behind its first loop. -/
def c6t : CI := .seq (.drw r6_15 [2, 7, 8, 16, 17]) (.seq (.seq (.reg r6_16 [2, 7, 8, 16, 17, 95]) (.cond (.t 95) (.seq (.reg r6_17 [6]) (.ret)) (.done))) (.seq (.seq (.reg r6_18 [2, 7, 8, 16, 17, 18]) (.block 2 (.loop (.seq (.seq (.reg r6_19 [2, 7, 8, 16, 17, 18, 99]) (.cond (.t 99) (.done) (.exit 2))) (.seq (.block 3 (.seq (.drw r6_21 [2, 7, 8, 16, 17, 18, 111]) (.cond (.t 111) (.seq (.reg r6_22 [6]) (.ret)) (.done)))) (.reg r6_20 [2, 7, 8, 16, 17, 18])))))) (.seq (.reg r6_23 [2, 7, 8, 20]) (.seq (.reg r6_24 [6]) (.ret)))))

theorem tail_call {k : Int} (hv : ValidC k) (hk : 1 ≤ k ∧ k ≤ 40) (today : Int) (a b : List Sn) (htw : twin a b) (ha : a.length ≤ 8) (Q : Exit → St → Prop)
    (hQ : ∀ s, s.get (.t 6) = .sc (.bool true) → Q .ret s) :
    AW Tryz.prog Tryz.f6.ntmps c6t { env := [(2, .sc (.int .i64 today)), (7, .ptr 800 8 0 0), (8, .fsl 4 (a.map sy)), (9, .fsl 4 (b.map sy))], obs := [(800, some (.row 8 [cC k]))], nm := [800] } Q := by
  have hb := htw.len
  have hte := htw.exp k today
  have hea := exp_len k today a
  have heb := hte.len
  have hca := expire_all hv hk a (by omega) today
  have hcb := rexpire_all hv hk b (by omega) today
  generalize exp k today a = ea at *
  generalize exp k today b = eb at *
  have hrest : AW Tryz.prog Tryz.f6.ntmps (.seq (.seq (.reg r6_16 [2, 7, 8, 16, 17, 95]) (.cond (.t 95) (.seq (.reg r6_17 [6]) (.ret)) (.done))) (.seq (.seq (.reg r6_18 [2, 7, 8, 16, 17, 18]) (.block 2 (.loop (.seq (.seq (.reg r6_19 [2, 7, 8, 16, 17, 18, 99]) (.cond (.t 99) (.done) (.exit 2))) (.seq (.block 3 (.seq (.drw r6_21 [2, 7, 8, 16, 17, 18, 111]) (.cond (.t 111) (.seq (.reg r6_22 [6]) (.ret)) (.done)))) (.reg r6_20 [2, 7, 8, 16, 17, 18])))))) (.seq (.reg r6_23 [2, 7, 8, 20]) (.seq (.reg r6_24 [6]) (.ret))))) { env := [(2, .sc (.int .i64 today)), (7, .ptr 800 8 0 0), (8, .fsl 4 (a.map sy)), (16, .fsl 4 (ea.map scl)), (17, .fsl 4 (eb.map sy))], obs := [(800, some (.row 8 [cC k]))], nm := [800] } Q := by
    have hl8 : ¬ (8 : Int) < a.length := by omega
    have h8' : ¬ 8 < a.length := by omega
    refine AW.q fun M hM => AW.r fun K hK => ?_
    simp [r6_16, go_sem, hl8, h8', heb]
    apply hK; clear hK K
    refine AW.c rfl (fun h => nomatch h) (fun h => AW.done ?_)
    simp only [Exit.thenK]
    apply hM; clear hM M
    refine AW.q fun M hM => AW.r fun K hK => ?_
    simp [r6_18, go_sem]
    apply hK; clear hK K
    refine AW.k fun M1 hM1 => ?_
    refine AW.l (fun n s => ∃ i : Nat, i + n = ea.length ∧ s = { env := [(2, .sc (.int .i64 today)), (7, .ptr 800 8 0 0), (8, .fsl 4 (a.map sy)), (16, .fsl 4 (ea.map scl)), (17, .fsl 4 (eb.map sy)), (18, .sc (.int .i64 i))], obs := [(800, some (.row 8 [cC k]))], nm := [800] }) ea.length ?_ ?_
    · refine ⟨_, Wk.refl _, 0, by omega, ?_⟩
      simp [go_sem]
    rintro n s ⟨i, hi, rfl⟩ R hR
    by_cases hlt : i < ea.length
    · have hw : IntKind.wrap .i64 ((i : Int) + 1) = (i : Int) + 1 := wrap_i64 (by omega) (by omega)
      obtain ⟨⟨c, d, q⟩, hx⟩ : ∃ x, ea[i]? = some x := ⟨_, List.getElem?_eq_getElem hlt⟩
      obtain ⟨⟨c', d', q'⟩, hy⟩ : ∃ x, eb[i]? = some x := ⟨_, List.getElem?_eq_getElem (by omega)⟩
      have hxy : (d, q) = (d', q') := by
        have h1 : (ea.map (·.2))[i]? = some (d, q) := by simp [hx]
        have h2 : (eb.map (·.2))[i]? = some (d', q') := by simp [hy]
        rw [show ea.map (·.2) = eb.map (·.2) from hte, h2] at h1
        exact (Option.some.inj h1).symm
      obtain ⟨rfl, rfl⟩ : d = d' ∧ q = q' := by simpa using hxy
      have hsame := same_call c c' d q
      have hlen1 : (ea.map scl).length = ea.length := by simp
      have hlen2 : (eb.map sy).length = ea.length := by simp [heb]
      have hx1 : (ea.map scl)[i]? = some (scl (c, d, q)) := by simp [hx]
      have hy1 : (eb.map sy)[i]? = some (sy (c', d, q)) := by simp [hy]
      have hR := hR (n - 1)
      have hi1 : n - 1 < n := by omega
      have hi2 : i + 1 + (n - 1) = ea.length := by omega
      generalize ea.map scl = xs at *
      generalize eb.map sy = ys at *
      have hx2 : ∀ h : i < xs.length, xs[i] = scl (c, d, q) := fun h => by
        rw [List.getElem?_eq_getElem h] at hx1
        exact Option.some.inj hx1
      have hy2 : ∀ h : i < ys.length, ys[i] = sy (c', d, q) := fun h => by
        rw [List.getElem?_eq_getElem h] at hy1
        exact Option.some.inj hy1
      refine AW.q fun M2 hM2 => AW.r fun K hK => ?_
      simp [r6_19, go_sem, hlen1]
      apply hK; clear hK K
      refine AW.c rfl (fun h => AW.done ?_) (fun h => absurd h (by simpa using hlt))
      simp only [Exit.thenK]
      apply hM2; clear hM2 M2
      refine AW.q fun M2 hM2 => AW.k fun M3 hM3 => ?_
      refine AW.d fun K hK => ?_
      cases c'
      all_goals
        simp [r6_21, go_sem, hlen1, hlen2, hlt, hx1, hx2, hy1, hy2, scl, cl, sy, sx, off]
        refine StopD.c hsame [] 0 rfl ?_ trivial ?_ ?_ ?_
        · simp [go_sem, scl, cl, sy, sx, off]
        · simp [go_sem, scl, cl, sy, sx, off]
        · simp [go_sem]
        simp [go_sem]
        refine ⟨rfl, hK _ ?_⟩
        clear hK K
        refine AW.c rfl (fun h => nomatch h) (fun h => AW.done ?_)
        simp only [Exit.thenK, Exit.inB]
        apply hM3
        simp only [Exit.thenK]
        apply hM2
        refine AW.r1 fun K hK => ?_
        simp [r6_20, go_sem, hw]
        apply hK; clear hK K
        simp only [Exit.thenK]
        refine hR _ _ hi1 (Wk.refl _) ⟨i + 1, hi2, ?_⟩
        simp [go_sem]
    · have hlen1 : (ea.map scl).length = ea.length := by simp
      refine AW.q fun M2 hM2 => AW.r fun K hK => ?_
      simp [r6_19, go_sem]
      apply hK; clear hK K
      refine AW.c rfl (fun h => absurd h (by simpa using hlt)) (fun h => AW.exit ?_)
      simp only [Exit.thenK, Exit.inB, if_true]
      apply hM1
      simp only [Exit.thenK]
      apply hM
      refine AW.r fun K hK => ?_
      simp [r6_23, go_sem, cC, cK]
      refine Stop.c (keep_nof hv (a.map sy)) [] 0 rfl ?_ trivial ?_ ?_ ?_
      · simp [go_sem, cK, sy, sx, off]
      · simp [go_sem, cK, sy, sx, off]
      · simp [go_sem]
      simp [go_sem]
      apply hK; clear hK K
      refine AW.r fun K hK => ?_
      simp [r6_24, go_sem]
      refine Stop.c (expire_nob hv (by omega : (-1 : Int) < 0) (a.map sy) today) [] 0 rfl ?_ trivial ?_ ?_ ?_
      · simp [go_sem, cK]
      · simp [go_sem, cK]
      · simp [go_sem]
      simp [go_sem]
      refine Stop.c awake_call [] 0 rfl ?_ trivial ?_ ?_ ?_
      · simp [go_sem]
      · simp [go_sem]
      · simp [go_sem]
      simp [go_sem]
      apply hK; clear hK K
      exact AW.ret (hQ _ rfl)
  unfold c6t
  by_cases he : ea = []
  · have he' : eb = [] := by
      rw [he] at heb
      exact List.eq_nil_of_length_eq_zero heb
    subst he
    subst he'
    simp only [lst, if_true] at hca hcb
    refine AW.d fun K hK => ?_
    simp [r6_15, go_sem, cC, cK]
    refine StopD.c hca [] 0 rfl ?_ trivial ?_ ?_ ?_
    · simp [go_sem, cK]
    · simp [go_sem, cK]
    · simp [go_sem]
    simp [go_sem]
    refine StopD.c hcb [] 0 rfl ?_ trivial ?_ ?_ ?_
    · simp [go_sem, cK]
    · simp [go_sem, cK]
    · simp [go_sem]
    simp [go_sem]
    refine ⟨rfl, hK _ ?_⟩
    clear hK K
    refine AW.weak (Wk.nil (t := 16) (sz := 4) rfl) ?_
    refine AW.weak (Wk.nil (t := 17) (sz := 4) rfl) ?_
    refine AW.weak (Wk.keep _ [2, 7, 8, 16, 17]) ?_
    simpa [go_sem, cC, cK] using hrest
  · have he' : eb ≠ [] := fun h => he (List.eq_nil_of_length_eq_zero (by rw [← heb, h]; rfl))
    simp only [lst, if_neg he, if_neg he'] at hca hcb
    refine AW.d fun K hK => ?_
    simp [r6_15, go_sem, cC, cK]
    refine StopD.c hca [] 0 rfl ?_ trivial ?_ ?_ ?_
    · simp [go_sem, cK]
    · simp only [okCall, List.isEmpty_nil, Bool.true_or, Bool.and_true]
      simp [go_sem, cK]
    · simp [go_sem]
    simp [go_sem]
    refine StopD.c hcb [] 0 rfl ?_ trivial ?_ ?_ ?_
    · simp [go_sem, cK]
    · simp only [okCall, List.isEmpty_nil, Bool.true_or, Bool.and_true]
      simp [go_sem, cK]
    · simp [go_sem]
    simp [go_sem]
    refine ⟨rfl, hK _ ?_⟩
    clear hK K
    simpa [go_sem, cC, cK] using hrest
end Go.Proofs.YtbmlhmgldipnhabGreatE

namespace Go.Proofs.YtbmlhmgldipnhabGreatE
open Go
attribute [-go_sem] nodeOf
attribute [local go_sem] nodeOf_pl nodeOf_nil

def dI (d : Int) : List AV := [.sc (.int .i64 d)]
/-- How long the law's catalogue keeps a snapshot. -/
def keeps (keep : Int) : Int := 1 + (keep % 18446744073709551616) % 40

theorem twin.cl {a b : List Sn} (h : twin a b) : twin (a.map cl) b := by
  unfold twin at *
  rw [← h, List.map_map]
  rfl
theorem twin.keep {a b : List Sn} (h : twin a b) (s : Sn) : twin (keepL a s) (keepL b s) := by
  have hl := h.len
  unfold twin keepL at *
  rw [List.map_drop, List.map_drop, List.map_append, List.map_append, h, hl]
theorem keepL_len (a : List Sn) (s : Sn) (ha : a.length ≤ 8) : (keepL a s).length ≤ 8 ∧ keepL a s ≠ [] := by
  have h : (keepL a s).length = a.length + 1 - (a.length + 1 - 8) := by simp [keepL]
  refine ⟨by omega, fun h0 => ?_⟩
  rw [h0] at h
  simp at h
  omega

def S0 (es : List (List AV)) (kk today : Int) (i : Nat) : St := { env := [(0, .fsl 1 es), (2, .sc (.int .i64 today)), (7, .ptr 800 8 0 0), (8, .nils), (9, .nils), (10, .sc (.int .i64 i))], obs := [(800, some (.row 8 [cC kk]))], nm := [800] }
def S1 (es : List (List AV)) (kk today : Int) (i : Nat) (a b : List Sn) : St := { env := [(0, .fsl 1 es), (2, .sc (.int .i64 today)), (7, .ptr 800 8 0 0), (8, .sl 90000 4 0 a.length), (9, .fsl 4 (b.map sy)), (10, .sc (.int .i64 i))], obs := [(800, some (.row 8 [cC kk])), (90000, some (.row 4 (a.map sy)))], nm := [800, 90000] }

theorem law (days : List Int) (keep today : Int) : PCall Tryz.prog 6 [.fsl 1 (days.map dI), .sc (.int .i64 keep), .sc (.int .i64 today)] (.sc (.bool true)) := by
  refine LCall.of_body Tryz.func6 c6_ok rfl (by show 3 ≤ Tryz.f6.ntmps; decide) ?_
  generalize hQ : (fun (e : Exit) (s' : St) => (e = .ret ∨ e = .normal) ∧ ∃ s'' own, Wk s' s'' ∧ Ends s'' [.slot 6] (.sc (.bool true)) [] [] own) = Q
  have hlen : (days.map dI).length = days.length := by simp
  have hxs : ∀ (i : Nat) (x : Int), days[i]? = some x → (days.map dI)[i]? = some [.sc (.int .i64 x)] := fun i x h => by simp [h, dI]
  generalize hes : days.map dI = es at *
  unfold c6
  refine AW.r fun K hK => ?_
  simp [r6_0, go_sem]
  apply hK; clear hK K
  refine AW.q fun M hM => AW.r fun K hK => ?_
  simp [r6_1, go_sem, hlen]
  apply hK; clear hK K
  refine AW.c rfl (fun h => ?_) (fun h => AW.done ?_)
  · refine AW.r fun K hK => ?_
    simp [r6_2, go_sem]
    refine Stop.c awake_call [] 0 rfl ?_ trivial ?_ ?_ ?_
    · simp [go_sem]
    · simp [go_sem]
    · simp [go_sem]
    simp [go_sem]
    apply hK; clear hK K
    refine AW.ret ?_
    simp only [Exit.thenK]
    subst hQ
    refine ⟨.inl rfl, _, [], Wk.refl _, Ends.still trivial ?_ ?_ ?_ ?_⟩
    all_goals first | rfl | trivial | simp [go_sem]
  have hd20 : days.length ≤ 20 := by simp at h; omega
  clear h
  simp only [Exit.thenK]
  apply hM; clear hM M
  have hk1 : IntKind.wrap .u64 keep = keep % 18446744073709551616 := by simp [IntKind.wrap, IntKind.signed, IntKind.bits]
  have hk2 : (keep % 18446744073709551616).tmod 40 = (keep % 18446744073709551616) % 40 := Int.tmod_eq_emod_of_nonneg (by omega)
  have hk3 : IntKind.wrap .i64 ((keep % 18446744073709551616) % 40) = (keep % 18446744073709551616) % 40 := wrap_i64 (by omega) (by omega)
  have hk4 : IntKind.wrap .i64 (1 + (keep % 18446744073709551616) % 40) = keeps keep := wrap_i64 (by omega) (by omega)
  refine AW.r2 14 fun K hK => ?_
  simp [r6_3, go_sem, nodeOf, hk1, hk2, hk3, hk4]
  refine ⟨_, Wk.fz _ [2700, 2900, 3000, 3700] 8, ?_⟩
  simp [go_sem]
  apply hK; clear hK K
  refine AW.weak (Wk.take (ps := [(800, 800)]) ?_) ?_
  · simp [go_sem, okTake]
  have hkk : ValidC (keeps keep) := validC (by unfold keeps; omega) (by unfold keeps; omega)
  have hk40 : 1 ≤ keeps keep ∧ keeps keep ≤ 40 := by unfold keeps; omega
  generalize keeps keep = kk at *
  clear hk1 hk2 hk3 hk4
  refine AW.r fun K hK => ?_
  simp [r6_4, go_sem]
  apply hK; clear hK K
  refine AW.q fun M hM => AW.r fun K hK => ?_
  simp [r6_5, go_sem]
  apply hK; clear hK K
  refine AW.k fun M1 hM1 => ?_
  refine AW.l (fun n s => ∃ (i : Nat) (a b : List Sn), i + n = days.length ∧ twin a b ∧ a.length ≤ 8 ∧ ((a = [] ∧ b = [] ∧ s = S0 es kk today i) ∨ (a ≠ [] ∧ s = S1 es kk today i a b))) days.length ?_ ?_
  · refine ⟨_, Wk.refl _, 0, [], [], by omega, rfl, by simp, .inl ⟨rfl, rfl, ?_⟩⟩
    simp [go_sem, S0, cC, cK]
  rintro n s ⟨i, a, b, hi, htw, ha, hs⟩ R hR
  have hw : IntKind.wrap .i64 ((i : Int) + 1) = (i : Int) + 1 := wrap_i64 (by omega) (by omega)
  by_cases hlt : i < days.length
  · obtain ⟨d, hx⟩ : ∃ x, days[i]? = some x := ⟨_, List.getElem?_eq_getElem hlt⟩
    have hx := hxs i d hx
    have hx2 : ∀ h : i < es.length, es[i] = [.sc (.int .i64 d)] := fun h => by
      rw [List.getElem?_eq_getElem h] at hx
      exact Option.some.inj hx
    have hi1 : n - 1 < n := by omega
    have hi2 : i + 1 + (n - 1) = days.length := by omega
    have hR := hR (n - 1)
    rcases hs with ⟨rfl, rfl, rfl⟩ | ⟨hne, rfl⟩
    · refine AW.q fun M2 hM2 => AW.r fun K hK => ?_
      simp [r6_6, go_sem, hlen, S0]
      apply hK; clear hK K
      refine AW.c rfl (fun h => AW.done ?_) (fun h => absurd h (by simpa using hlt))
      simp only [Exit.thenK]
      apply hM2; clear hM2 M2
      refine AW.q fun M2 hM2 => AW.k fun M3 hM3 => ?_
      refine AW.r fun K hK => ?_
      simp [r6_8, go_sem, hlen, hlt, hx, hx2]
      apply hK; clear hK K
      refine AW.r fun K hK => ?_
      simp [r6_9, go_sem, cC, cK]
      refine Stop.c (keep_nil hkk (false, d, i)) [] 0 rfl ?_ trivial ?_ ?_ ?_
      · simp [go_sem, cK, sy, sx, off]
      · simp [go_sem, cK, sy, sx, off, scl, cl]
      · simp [go_sem, scl, cl, sy, sx, off]
      simp [go_sem, scl, cl, sy, sx, off]
      apply hK; clear hK K
      refine AW.r fun K hK => ?_
      simp [r6_10, go_sem]
      refine Stop.c (rkeep_ok hkk [] (false, d, i) (by simp) (by simp)) [] 0 rfl ?_ trivial ?_ ?_ ?_
      · simp [go_sem, cK, sy, sx, off]
      · simp [go_sem, cK, sy, sx, off, keepL]
      · simp [go_sem, keepL, sy, sx, off]
      simp [go_sem, keepL, sy, sx, off]
      apply hK; clear hK K
      refine AW.q fun M4 hM4 => AW.r fun K hK => ?_
      simp [r6_11, go_sem]
      apply hK; clear hK K
      refine AW.c rfl (fun h => nomatch h) (fun h => AW.done ?_)
      simp only [Exit.thenK]
      apply hM4; clear hM4 M4
      refine AW.r fun K hK => ?_
      simp [r6_13, go_sem]
      apply hK; clear hK K
      refine AW.c rfl (fun h => ?_) (fun h => nomatch h)
      refine AW.r1 fun K hK => ?_
      simp [r6_14, go_sem]
      apply hK; clear hK K
      simp only [Exit.thenK, Exit.inB]
      apply hM3
      simp only [Exit.thenK]
      apply hM2
      refine AW.r1 fun K hK => ?_
      simp [r6_7, go_sem, hw]
      apply hK; clear hK K
      simp only [Exit.thenK]
      refine hR _ _ hi1 (Wk.take (ps := [(800, 800), (5500, 90000)]) ?_) ⟨i + 1, [cl (false, d, i)], [(false, d, i)], hi2, rfl, by simp, .inr ⟨by simp, ?_⟩⟩
      · simp [go_sem, okTake]
      · simp [go_sem, S1, cC, cK, sy, sx, off, cl]
    · obtain ⟨l, x, rfl⟩ : ∃ l x, a = l ++ [x] := by
        rcases List.eq_nil_or_concat a with h | ⟨l, x, h⟩
        · exact absurd h hne
        · exact ⟨l, x, by simpa using h⟩
      obtain ⟨lb, xb, rfl, hxb⟩ : ∃ lb xb, b = lb ++ [xb] ∧ xb.2 = x.2 := by
        rcases List.eq_nil_or_concat b with h | ⟨lb, xb, h⟩
        · have := htw.len
          rw [h] at this
          simp at this
        · refine ⟨lb, xb, by simpa using h, ?_⟩
          have h' : b = lb ++ [xb] := by simpa using h
          rw [h'] at htw
          unfold twin at htw
          simp at htw
          exact htw.2.symm
      have hll : (l ++ [x]).length = l.length + 1 := by simp
      have hl8 : l.length ≤ 1000 := by omega
      have hlb8 : (lb ++ [xb]).length ≤ 1000 := by have := htw.len; omega
      have hlb9 : lb.length ≤ 1000 := by simp at hlb8; omega
      have htk := htw.keep (false, d, (i : Int))
      obtain ⟨hk8, hkne⟩ := keepL_len (l ++ [x]) (false, d, (i : Int)) ha
      have hkl := htk.len
      have hxd : xb.2.1 = x.2.1 := by rw [hxb]
      have hpk : (((keepL (l ++ [x]) (false, d, (i : Int))).map scl).all fun e => e.all AV.plain) = true := by
        have := scl_plain (keepL (l ++ [x]) (false, d, (i : Int))) 2000
        rwa [List.take_of_length_le (by simp; omega)] at this
      have hrk := rkeep_ok hkk (lb ++ [xb]) (false, d, (i : Int)) hlb8
      refine AW.q fun M2 hM2 => AW.r fun K hK => ?_
      simp [r6_6, go_sem, hlen, S1]
      apply hK; clear hK K
      refine AW.c rfl (fun h => AW.done ?_) (fun h => absurd h (by simpa using hlt))
      simp only [Exit.thenK]
      apply hM2; clear hM2 M2
      refine AW.q fun M2 hM2 => AW.k fun M3 hM3 => ?_
      refine AW.r fun K hK => ?_
      simp [r6_8, go_sem, hlen, hlt, hx, hx2]
      apply hK; clear hK K
      by_cases hd : x.2.1 ≤ d
      · have hrk := hrk (by simp; omega)
        have hko := keep_ok' hkk l x (false, d, (i : Int)) hl8 hd
        generalize keepL (l ++ [x]) (false, d, (i : Int)) = ka at *
        generalize keepL (lb ++ [xb]) (false, d, (i : Int)) = kb at *
        refine AW.r fun K hK => ?_
        simp [r6_9, go_sem, cC, cK]
        refine Stop.c hko [] 0 rfl ?_ ?_ ?_ ?_ ?_
        · simp [go_sem, cK, sy, sx, off]
        · simp [go_sem]
        · simp [go_sem, cK, sy, sx, off, hpk]
        · simp [go_sem, hpk]
        simp [go_sem, hpk]
        apply hK; clear hK K
        refine AW.r fun K hK => ?_
        simp [r6_10, go_sem]
        refine Stop.c hrk [] 0 rfl ?_ trivial ?_ ?_ ?_
        · simp [go_sem, cK, sy, sx, off]
        · simp only [okCall, List.isEmpty_nil, Bool.true_or, Bool.and_true]
          simp [go_sem, cK, sy, sx, off]
        · simp [go_sem]
        simp [go_sem]
        apply hK; clear hK K
        refine AW.q fun M4 hM4 => AW.r fun K hK => ?_
        simp [r6_11, go_sem, hkl]
        apply hK; clear hK K
        refine AW.c rfl (fun h => nomatch h) (fun h => AW.done ?_)
        simp only [Exit.thenK]
        apply hM4; clear hM4 M4
        refine AW.r fun K hK => ?_
        simp [r6_13, go_sem]
        apply hK; clear hK K
        refine AW.c rfl (fun h => ?_) (fun h => nomatch h)
        refine AW.r1 fun K hK => ?_
        simp [r6_14, go_sem]
        apply hK; clear hK K
        simp only [Exit.thenK, Exit.inB]
        apply hM3
        simp only [Exit.thenK]
        apply hM2
        refine AW.r1 fun K hK => ?_
        simp [r6_7, go_sem, hw]
        apply hK; clear hK K
        simp only [Exit.thenK]
        refine hR _ _ hi1 (Wk.take (ps := [(800, 800), (5500, 90000)]) ?_) ⟨i + 1, ka.map cl, kb, hi2, htk.cl, by simpa using hk8, .inr ⟨by simpa using hkne, ?_⟩⟩
        · simp [go_sem, okTake]
        · simp [go_sem, S1, cC, cK, scl_map]
      · have hre := rkeep_err hkk lb xb (false, d, (i : Int)) hlb9 (by simp; omega)
        have hke := keep_err' hkk l x (false, d, (i : Int)) hl8 (by simp; omega)
        refine AW.r fun K hK => ?_
        simp [r6_9, go_sem, cC, cK]
        refine Stop.c hke [] 0 rfl ?_ ?_ ?_ ?_ ?_
        · simp [go_sem, cK, sy, sx, off]
        · simp [go_sem]
        · simp [go_sem, cK, sy, sx, off]
        · simp [go_sem]
        simp [go_sem]
        apply hK; clear hK K
        refine AW.r fun K hK => ?_
        simp [r6_10, go_sem]
        refine Stop.c hre [] 0 rfl ?_ trivial ?_ ?_ ?_
        · simp [go_sem, cK, sy, sx, off]
        · simp [go_sem, cK, sy, sx, off]
        · simp [go_sem]
        simp [go_sem]
        apply hK; clear hK K
        refine AW.q fun M4 hM4 => AW.r fun K hK => ?_
        simp [r6_11, go_sem, hkl]
        apply hK; clear hK K
        refine AW.c rfl (fun h => nomatch h) (fun h => AW.done ?_)
        simp only [Exit.thenK]
        apply hM4; clear hM4 M4
        refine AW.r fun K hK => ?_
        simp [r6_13, go_sem]
        apply hK; clear hK K
        refine AW.c rfl (fun h => nomatch h) (fun h => AW.done ?_)
        simp only [Exit.thenK, Exit.inB]
        apply hM3
        simp only [Exit.thenK]
        apply hM2
        refine AW.r1 fun K hK => ?_
        simp [r6_7, go_sem, hw]
        apply hK; clear hK K
        simp only [Exit.thenK]
        refine hR _ _ hi1 (Wk.take (ps := [(800, 800), (90000, 90000)]) ?_) ⟨i + 1, l ++ [x], lb ++ [xb], hi2, htw, ha, .inr ⟨by simp, ?_⟩⟩
        · simp [go_sem, okTake]
        · simp [go_sem, S1, cC, cK]
  · have hQ' : ∀ s : St, s.get (.t 6) = .sc (.bool true) → Q .ret s := fun s hs6 => by
      subst hQ
      exact ⟨.inl rfl, _, [], Wk.refl _, Ends.still trivial hs6 rfl trivial rfl⟩
    rcases hs with ⟨rfl, rfl, rfl⟩ | ⟨hne, rfl⟩
    · refine AW.q fun M2 hM2 => AW.r fun K hK => ?_
      simp [r6_6, go_sem, hlen, S0]
      apply hK; clear hK K
      refine AW.c rfl (fun h => absurd h (by simpa using hlt)) (fun h => AW.exit ?_)
      simp only [Exit.thenK, Exit.inB, if_true]
      apply hM1
      simp only [Exit.thenK]
      apply hM
      refine AW.weak (Wk.nil (t := 8) (sz := 4) rfl) ?_
      refine AW.weak (Wk.nil (t := 9) (sz := 4) rfl) ?_
      refine AW.weak (Wk.keep _ [2, 7, 8, 9]) ?_
      have := tail_call hkk hk40 today [] [] rfl (by simp) Q hQ'
      unfold c6t at this
      simpa [go_sem] using this
    · refine AW.q fun M2 hM2 => AW.r fun K hK => ?_
      simp [r6_6, go_sem, hlen, S1]
      apply hK; clear hK K
      refine AW.c rfl (fun h => absurd h (by simpa using hlt)) (fun h => AW.exit ?_)
      simp only [Exit.thenK, Exit.inB, if_true]
      apply hM1
      simp only [Exit.thenK]
      apply hM
      refine AW.weak (Wk.fz _ [90000] 3) ?_
      refine AW.weak (Wk.keep _ [2, 7, 8, 9]) ?_
      have := tail_call hkk hk40 today a b htw ha Q hQ'
      have hta : List.take a.length (List.map sy a) = List.map sy a := List.take_of_length_le (by simp)
      refine AW.weak (Wk.take (ps := [(800, 800)]) ?_) ?_
      · simp [go_sem, okTake, hta]
      unfold c6t at this
      simpa [go_sem, hta, cC, cK] using this
end Go.Proofs.YtbmlhmgldipnhabGreatE

namespace Go.Proofs.YtbmlhmgldipnhabGreatE
open Go Go.RowKit

/-- A slice of whole numbers, and what stands in it. -/
def IsRow (k : IntKind) (w : World) (a : Option Addr) (len cap : Nat) (zs : List Int) : Prop :=
  (a = none ∧ len = 0 ∧ cap = 0 ∧ zs = []) ∨
  ∃ x, a = some x ∧ len ≤ cap ∧ cap ≤ maxLen ∧ zs.length = cap ∧ (∀ i, i < zs.length → w.cell? (x.add i) = some (.int k (zs.getD i 0))) ∧ ∀ n ∈ zs, (Lit.int k n).wf = true

theorem cell_lt {w : World} {a : Addr} {v : Value} (h : w.cell? a = some v) : a.block < w.heap.size ∧ a.spot = none := by
  unfold World.cell? at h
  split at h
  · rename_i c t z hc
    have h1 := (Array.getElem?_eq_some_iff.1 hc).1
    split at h
    · cases h
    · rename_i hs
      refine ⟨h1, ?_⟩
      cases hsp : a.spot with
      | none => rfl
      | some s => rw [hsp] at hs; exact absurd rfl hs
  · cases h

theorem cell_dI {l : List Int} {i j : Nat} {c : AV} (h : cellAt (l.map dI) i j = some c) : j = 0 ∧ i < l.length ∧ c = .sc (.int .i64 (l.getD i 0)) := by
  unfold cellAt at h
  rw [List.getElem?_map] at h
  cases hx : l[i]? with
  | none => rw [hx] at h; cases h
  | some x =>
    rw [hx] at h
    have hi := (List.getElem?_eq_some_iff.1 hx).1
    have h' : ([AV.sc (.int .i64 x)] : List AV)[j]? = some c := h
    cases j with
    | zero =>
      refine ⟨rfl, hi, ?_⟩
      rw [List.getD_eq_getElem?_getD, hx]
      exact (Option.some.inj h').symm
    | succ j => simp at h'

theorem walk (a0 : Option Addr) (len0 cap0 : Nat) (z0 : List Int) (a1 a2 : Int) (W : World) (h : IsRow .i64 W a0 len0 cap0 z0) :
    Calls Tryz.prog 6 #[.slice a0 len0 cap0, .int .i64 a1, .int .i64 a2] W fun e w' => e = .returned (.bool true) ∧ Below W.heap.size W w' := by
  have hlen : (z0.take len0).length = len0 := by
    rcases h with ⟨_, h1, _, h2⟩ | ⟨x, _, h1, _, h2, _⟩
    · subst h1; subst h2; rfl
    · rw [List.length_take]; omega
  obtain ⟨Z, hZ, hrep⟩ : ∃ Z : Froz, (∀ b o, Z b o → b < W.heap.size) ∧ FRep Z W (.fsl 1 ((z0.take len0).map dI)) (.slice a0 len0 cap0) := by
    by_cases h0 : len0 = 0
    · subst h0
      exact ⟨fun _ _ => False, fun _ _ h => h.elim, .fempty 1 a0 cap0⟩
    · rcases h with ⟨_, h1, _, _⟩ | ⟨x, rfl, hlc, _, hzl, hc, _⟩
      · exact absurd h1 h0
      · have hx0 := cell_lt (hc 0 (by omega))
        have hxe : x.add 0 = x := rfl
        rw [hxe] at hx0
        obtain ⟨b, o, sp⟩ := x
        obtain ⟨hb, rfl⟩ := hx0
        have hci : ∀ i, i < len0 → World.cellOf W b (o + i) = some (.int .i64 (z0.getD i 0)) := fun i hi => by
          have := hc i (by omega)
          unfold Addr.add at this
          split at this
          · rename_i e
            subst e
            exact this
          · exact this
        refine ⟨fun b' o' => b' = b ∧ o ≤ o' ∧ o' < o + len0, fun b' o' h => by rw [h.1]; exact hb, ?_⟩
        have hl2 : ((z0.take len0).map dI).length = len0 := by rw [List.length_map]; exact hlen
        have key := FRep.fsl (Z := fun b' o' => b' = b ∧ o ≤ o' ∧ o' < o + len0) (w := W) 1 ((z0.take len0).map dI) b o cap0 (fun i _ => .int .i64 (z0.getD i 0)) (by omega) ?_ ?_ ?_
        · rw [hl2] at key
          exact key
        · intro i e he
          obtain ⟨x, _, rfl⟩ := List.mem_map.1 (List.mem_of_getElem? he)
          rfl
        · intro i j c hcell
          obtain ⟨rfl, hi, rfl⟩ := cell_dI hcell
          rw [hlen] at hi
          refine ⟨⟨rfl, by omega, by omega⟩, ?_, rfl⟩
          rw [show o + (i * 1 + 0) = o + i by omega]
          exact hci i hi
        · intro i j c hcell
          obtain ⟨rfl, hi, rfl⟩ := cell_dI hcell
          rw [hlen] at hi
          have : (z0.take len0).getD i 0 = z0.getD i 0 := by
            rw [List.getD_eq_getElem?_getD, List.getD_eq_getElem?_getD, List.getElem?_take_of_lt hi]
          rw [this]
          exact .sc _ rfl
  have hl := law (z0.take len0) a1 a2
  have := hl (fun _ => none) Z W #[.slice a0 len0 cap0, .int .i64 a1, .int .i64 a2] ?_ ?_
  · refine this.mono fun e w' ⟨v, he, hv⟩ => ?_
    obtain ⟨β', Z', hr, ho, hs, _⟩ := hv 100 (Nat.le_refl _) (by simp [keys])
    subst he
    refine ⟨?_, hs.os, hs.tape, hs.output, hs.size, fun b hb => hs.frame b hb ?_⟩
    · cases hr with
      | fro h => cases h with
        | sc v h1 => rfl
    · rintro ⟨k, nd, o, h1, h2⟩
      cases h2
  · exact ⟨fun k nd h => (nomatch h), fun k k' nd nd' b o o' h => (nomatch h), hZ, fun k b o h => (nomatch h), fun k p h => (nomatch h)⟩
  · refine ⟨rfl, fun j c hc => ?_⟩
    match j, hc with
    | 0, hc => cases hc; exact .fro hrep
    | 1, hc => cases hc; exact .fro (.sc _ rfl)
    | 2, hc => cases hc; exact .fro (.sc _ rfl)
    | j + 3, hc => simp at hc
end Go.Proofs.YtbmlhmgldipnhabGreatE
