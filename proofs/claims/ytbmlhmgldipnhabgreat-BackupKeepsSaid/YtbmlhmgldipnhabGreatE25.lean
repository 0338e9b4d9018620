/-
  The engine, part 25: what a walk uses: freezing reckoned, calls in one step, the simp set.
-/
import Derived.Test.YtbmlhmgldipnhabGreatE24
set_option linter.unusedVariables false
set_option linter.unusedSimpArgs false
namespace Go.Proofs.YtbmlhmgldipnhabGreatE
open Go

/-- A value, looked at while the objects T stand still ('n': how deep). -/
def fzV (ob : Nat → Option Node) (T : List Nat) : Nat → AV → AV
  | 0, v => v
  | n + 1, .sl k sz i len => if T.contains k then match ob k with
    | some (.row z es) => if z = sz ∧ i + len ≤ es.length then .fsl sz ((es.drop i).take len) else .sl k sz i len
    | some (.arow z es) => if z = sz ∧ i + len ≤ es.length ∧ (((es.drop i).take len).map fun e => e.map (fzV ob T n)).all (fun e => frees e && e.length == sz) = true then .fsl sz (((es.drop i).take len).map fun e => e.map (fzV ob T n)) else .sl k sz i len
    | _ => .sl k sz i len
    else .sl k sz i len
  | n + 1, .ptr k sz i off => if T.contains k then match ob k with
    | some (.row z es) => if z = sz then match es[i]? with
      | some e => .fp (e.drop off)
      | none => .ptr k sz i off
      else .ptr k sz i off
    | some (.arow z es) => if z = sz then match es[i]? with
      | some e => if frees ((e.drop off).map (fzV ob T n)) then .fp ((e.drop off).map (fzV ob T n)) else .ptr k sz i off
      | none => .ptr k sz i off
      else .ptr k sz i off
    | _ => .ptr k sz i off
    else .ptr k sz i off
  | n + 1, .agg cs => .agg (cs.map (fzV ob T n))
  | n + 1, .fn f a b => .fn f (a.map (fzV ob T n)) (b.map (fzV ob T n))
  | _ + 1, v => v

theorem Frz.fz (s : St) (T : List Nat) : ∀ (n : Nat) (v : AV), Frz s T v (fzV s.ob T n v)
  | 0, v => .keep v
  | n + 1, v => by
    have ih := Frz.fz s T n
    have hl : ∀ (cs : List AV) (j : Nat) (c d : AV), cs[j]? = some c → (cs.map (fzV s.ob T n))[j]? = some d → Frz s T c d := fun cs j c d h1 h2 => by
      rw [List.getElem?_map, h1] at h2
      simp only [Option.map_some, Option.some.injEq] at h2
      rw [← h2]; exact ih c
    cases v with
    | sl k sz i len =>
      simp only [fzV]
      split
      · rename_i hT
        have hT : k ∈ T := by simpa using hT
        split
        · rename_i z es ho
          split
          · rename_i h
            obtain ⟨rfl, h⟩ := h
            exact .sl k z i len es hT ho h
          · exact .keep _
        · rename_i z es ho
          split
          · rename_i h
            obtain ⟨rfl, h1, h2⟩ := h
            rw [List.all_eq_true] at h2
            refine .slA k z i len es _ hT ho h1 (by simp; omega) (fun p e he => ?_) (fun p e he => ?_) fun p j c c' hc hc' => ?_
            · have := h2 e (List.mem_of_getElem? he); simp only [Bool.and_eq_true] at this; exact this.1
            · have := h2 e (List.mem_of_getElem? he); simp only [Bool.and_eq_true, beq_iff_eq] at this; exact this.2
            · obtain ⟨e, q1, q2, _, _⟩ := cellAt_lt hc
              obtain ⟨e', q1', q2', _, _⟩ := cellAt_lt hc'
              rw [List.getElem?_map] at q1'
              obtain ⟨e'', q3, rfl⟩ := Option.map_eq_some_iff.1 q1'
              have : e'' = e := by
                have hp : p < len := by
                  have := (List.getElem?_eq_some_iff.1 q3).1
                  simp at this; omega
                rw [List.getElem?_take, if_pos hp, List.getElem?_drop] at q3
                rw [q1] at q3
                exact (Option.some.inj q3).symm
              subst this
              exact hl _ j c c' q2 q2'
          · exact .keep _
        · exact .keep _
      · exact .keep _
    | ptr k sz i off =>
      simp only [fzV]
      split
      · rename_i hT
        have hT : k ∈ T := by simpa using hT
        split
        · rename_i z es ho
          split
          · rename_i h
            subst h
            split
            · rename_i e he
              exact .ptr k z i off es e hT ho he
            · exact .keep _
          · exact .keep _
        · rename_i z es ho
          split
          · rename_i h
            subst h
            split
            · rename_i e he
              split
              · rename_i hf
                exact .ptrA k z i off es e _ hT ho he (by simp) hf (hl _)
              · exact .keep _
            · exact .keep _
          · exact .keep _
        · exact .keep _
      · exact .keep _
    | agg cs => exact .agg cs _ (by simp) (hl cs)
    | fn f a b => exact .fn f a _ b _ (by simp) (by simp) (hl a) (hl b)
    | _ => exact .keep _

/-- An object's cells, looked at so. -/
def fzN (ob : Nat → Option Node) (T : List Nat) (n : Nat) : Node → Node
  | .arow sz es => if (es.map fun e => e.map (fzV ob T n)).all (fun e => frees e) then .row sz (es.map fun e => e.map (fzV ob T n)) else .arow sz (es.map fun e => e.map (fzV ob T n))
  | nd => nd

/-- Frozen for good. -/
def St.fz (s : St) (T : List Nat) (n : Nat) : St :=
  { env := s.env.map fun p => (p.1, fzV s.ob T n p.2), obs := T.map (fun k => (k, none)) ++ s.obs.map fun p => (p.1, p.2.map (fzN s.ob T n)), nm := s.nm }

theorem lookup_map_node {l : List (Nat × Option Node)} {f : Node → Node} {k : Nat} : (l.map fun p => (p.1, p.2.map f)).lookup k = (l.lookup k).map (Option.map f) := by
  induction l with
  | nil => rfl
  | cons p l ih =>
    obtain ⟨q, v⟩ := p
    simp only [List.map_cons, List.lookup_cons, ih]
    cases k == q <;> rfl
theorem lookup_nones (T : List Nat) (k : Nat) : (T.map fun k => (k, (none : Option Node))).lookup k = if k ∈ T then some none else none := by
  induction T with
  | nil => simp
  | cons x T ih =>
    simp only [List.map_cons, List.lookup_cons, ih, List.mem_cons]
    by_cases e : k = x
    · simp [e]
    · have : (k == x) = false := by simpa using e
      simp [this, e]

theorem Wk.fz (s : St) (T : List Nat) (n : Nat) : Wk s (s.fz T n) := fun N β Z a w r => by
  have hob : ∀ k nd, (s.fz T n).ob k = some nd → k ∉ T ∧ ∃ nd0, s.ob k = some nd0 ∧ nd = fzN s.ob T n nd0 := fun k nd hk => by
    unfold St.ob St.fz at hk
    simp only [lookup_append, lookup_nones, lookup_map_node] at hk
    by_cases e : k ∈ T
    · simp [e] at hk
    · refine ⟨e, ?_⟩
      simp only [e, if_false, Option.none_or] at hk
      unfold St.ob
      cases h : s.obs.lookup k with
      | none => rw [h] at hk; cases hk
      | some x =>
        rw [h] at hk
        simp only [Option.map_some, Option.getD_some] at hk ⊢
        obtain ⟨nd0, h1, h2⟩ := Option.map_eq_some_iff.1 hk
        exact ⟨nd0, h1, h2.symm⟩
  have kT := FrozT.keeps β Z s T w
  have notZ : ∀ k nd b o x, k ∉ T → s.ob k = some nd → β k = some (b, o) → FrozT β Z s T b x → Z b x := fun k nd b o x h1 h2 h3 hx => by
    rcases hx with hx | ⟨k', nd', o', q1, q2, q3⟩
    · exact hx
    · have := r.inj _ _ _ _ _ _ _ h2 q2 h3 q3
      subst this
      exact absurd q1 h1
  refine ⟨β, FrozT β Z s T, ⟨⟨fun k nd hk => ?_, fun k k' nd nd' b o o' g1 g2 => ?_, fun b x hz => ?_, r.dom, r.names⟩, fun t v' ht => ?_, r.size, r.defers⟩, { SExt.refl β Z s w with keeps := kT, frz := fun b x hb hz => ?_, owned := fun b hb ⟨k, nd, o, g1, g2⟩ => ?_, low := fun _ _ h => ⟨rfl, h⟩ }⟩
  · obtain ⟨hk1, nd0, hk2, rfl⟩ := hob k nd hk
    have base := r.node k nd0 hk2
    have on : NRep β (FrozT β Z s T) w k nd0 := base.on kT (fun _ _ h => h) rfl fun b o hb => ⟨rfl, fun x hx => notZ k nd0 b o x hk1 hk2 hb hx⟩
    cases nd0 with
    | row sz es => exact on
    | map es => exact on
    | arow sz es =>
      obtain ⟨b, o, h1, arr, t, g1, g2, g3, g4, g5, g6⟩ := base
      have hsz : ∀ (i : Nat) (e : List AV), (es.map fun e => e.map (fzV s.ob T n))[i]? = some e → e.length = sz := fun i e he => by
        rw [List.getElem?_map] at he
        obtain ⟨d, hd, rfl⟩ := Option.map_eq_some_iff.1 he
        rw [List.length_map]
        exact g3 i d hd
      have hcell : ∀ (i j : Nat) (c : AV), cellAt (es.map fun e => e.map (fzV s.ob T n)) i j = some c → CRep β (FrozT β Z s T) w c (arr.getD (o + (i * sz + j)) undef) := fun i j c hc => by
        obtain ⟨e, q1, q2, _, _⟩ := cellAt_lt hc
        rw [List.getElem?_map] at q1
        obtain ⟨d, hd, rfl⟩ := Option.map_eq_some_iff.1 q1
        rw [List.getElem?_map] at q2
        obtain ⟨c', hc', rfl⟩ := Option.map_eq_some_iff.1 q2
        exact Frz.sound r.toObjs (Frz.fz s T n c') (g4 i j c' (by simp [cellAt, hd, hc']))
      have hz : ∀ x, o ≤ x → ¬ FrozT β Z s T b x := fun x hx hx' => g5 x hx (notZ k _ b o x hk1 hk2 h1 hx')
      simp only [fzN]
      split
      · rename_i hall
        rw [List.all_eq_true] at hall
        refine .inr ⟨b, o, h1, arr, t, g1, by simpa using g2, hsz, fun i j c hc => ?_, hz, g6⟩
        obtain ⟨e, q1, q2, _, _⟩ := cellAt_lt hc
        exact (hcell i j c hc).frozen (frees_get (hall e (List.mem_of_getElem? q1)) q2)
      · exact ⟨b, o, h1, arr, t, g1, by simpa using g2, hsz, hcell, hz, g6⟩
  · obtain ⟨_, n1, h1, _⟩ := hob _ _ g1
    obtain ⟨_, n2, h2, _⟩ := hob _ _ g2
    exact r.inj _ _ _ _ _ _ _ h1 h2
  · rcases hz with hz | ⟨k', nd', o', q1, q2, q3⟩
    · exact r.froz _ _ hz
    · exact r.dom _ _ _ q3
  · simp only [St.fz, lookup_map_ren] at ht
    obtain ⟨v, hv, rfl⟩ := Option.map_eq_some_iff.1 ht
    exact Frz.sound r.toObjs (Frz.fz s T n v) (r.env t v hv)
  · rcases hz with hz | ⟨k', nd', o', q1, q2, q3⟩
    · exact .inl hz
    · exact .inr ⟨k', nd', o', q2, q3⟩
  · obtain ⟨_, n1, h1, _⟩ := hob _ _ g1
    exact ⟨k, n1, o, h1, g2⟩

/-- The empty slice where a nil slice is as good. -/
def St.nil (s : St) (t sz : Nat) : St := { s with env := (t, .fsl sz []) :: s.env }
theorem Wk.nil {s : St} {t sz : Nat} (h : s.get (.t t) = .nils) : Wk s (s.nil t sz) := fun N β Z a w r => by
  refine ⟨β, Z, ⟨r.toObjs.same (fun _ _ h => h) fun _ h => h, fun t' v' h' => ?_, r.size, r.defers⟩, { SExt.refl β Z s w with owned := fun _ _ h => h, low := fun _ _ h => ⟨rfl, h⟩ }⟩
  by_cases e : t' = t
  · subst e
    simp only [St.nil, lookup_cons_eq, Option.some.injEq] at h'
    subst h'
    have hv := get_rep r t'
    rw [h] at hv
    generalize a.tmps.getD t' undef = u at hv
    cases hv with
    | fro hv => cases hv; exact .fro (.fempty sz _ _)
  · simp only [St.nil, lookup_cons_ne e] at h'
    exact r.env t' v' h'

section
variable {P : Program} {N : Nat} {s : St} {Q : Exit → St → Prop}

theorem AW.c {c : Opd} {a b : CI} {t : Bool} (ht : s.get c = .sc (.bool t)) (h1 : t = true → AW P N a s Q) (h2 : t = false → AW P N b s Q) : AW P N (.cond c a b) s Q := AW.cond ht (by cases t <;> simp_all)

/-! ### calls in one step -/
/-- Arguments as a contract wants them: as they are, a nil slice as an empty one, or frozen while T stand still. -/
def okArgs (s : St) (T : List Nat) (n : Nat) : List AV → List AV → Prop
  | [], [] => True
  | v :: vs, a :: as => (fzV s.ob T n v = a ∨ (v = .nils ∧ ∃ sz, a = .fsl sz [])) ∧ okArgs s T n vs as
  | _, _ => False

theorem okArgs.spec {T : List Nat} {n : Nat} : ∀ (vs as : List AV), okArgs s T n vs as → vs.length = as.length ∧ ∀ (j : Nat) (v v' : AV), vs[j]? = some v → as[j]? = some v' → Frz s T v v'
  | [], [], _ => ⟨rfl, fun j v v' h _ => by simp at h⟩
  | [], _ :: _, h => h.elim
  | _ :: _, [], h => h.elim
  | v :: vs, a :: as, h => by
    obtain ⟨h1, h2⟩ := okArgs.spec vs as h.2
    refine ⟨by simp [h1], fun j x y hx hy => ?_⟩
    cases j with
    | zero =>
      simp only [List.getElem?_cons_zero, Option.some.injEq] at hx hy
      subst hx hy
      rcases h.1 with h | ⟨rfl, sz, rfl⟩
      · rw [← h]; exact Frz.fz s T n v
      · exact .nil sz
    | succ j => exact h2 j x y (by simpa using hx) (by simpa using hy)

/-- Objects as a contract wants them. -/
def okPre (s : St) : List (Nat × Node) → Prop
  | [] => True
  | p :: ps => s.ob p.1 = some p.2 ∧ okPre s ps
theorem okPre.spec : ∀ (ps : List (Nat × Node)), okPre s ps → ∀ k nd, ps.lookup k = some nd → s.ob k = some nd
  | [], _, k, nd, h => by simp at h
  | (q, u) :: ps, h, k, nd, hk => by
    by_cases e : k = q
    · subst e
      rw [lookup_cons_eq] at hk
      injection hk with hk
      subst hk
      exact h.1
    · rw [lookup_cons_ne e] at hk
      exact okPre.spec ps h.2 k nd hk

/-- What else a call by a contract asks; all of it can be reckoned. -/
def okCall (m : Nat) (args : List AV) (pre post : List (Nat × Node)) (r : AV) (T : List Nat) : Bool :=
  namess (keys pre) args && pre.all (fun p => p.2.names (keys pre)) && noneIn T (keys pre) && (keys post).all (fun k => (keys pre).contains k) &&
  (T.isEmpty || ((bindR m r).1.noF && ((bindR m r).2 ++ post).all fun p => p.2.noF)) && noneIn (keys (bindR m r).2) (keys pre) && decide (100 ≤ m)

theorem CallS.of {m : Nat} {f : FuncId} {vs args : List AV} {pre post : List (Nat × Node)} {r : AV} (T : List Nat) (n : Nat) (hc : LCall P f args pre r post) (ha : okArgs s T n vs args) (hp : okPre s pre) (hk : okCall m args pre post r T = true) : CallS P s m f vs (callEv m r pre post (T ++ keys pre)) := by
  obtain ⟨h1, h2⟩ := okArgs.spec vs args ha
  simp only [okCall, Bool.and_eq_true] at hk
  obtain ⟨⟨⟨⟨⟨⟨k1, k2⟩, k3⟩, k4⟩, k5⟩, k6⟩, k7⟩ := hk
  refine .mk args pre post r T (by simpa using k7) hc h1 h2 k1 (okPre.spec pre hp) (fun k nd h => ?_) (fun k => noneIn_spec k3 k) (fun k h => ?_) ?_ (fun k => noneIn_spec k6 k)
  · exact List.all_eq_true.1 k2 _ (mem_of_lookup h)
  · simpa using List.all_eq_true.1 k4 k h
  · rcases Bool.or_eq_true _ _ ▸ k5 with h | h
    · exact .inl (by simpa using h)
    · simp only [Bool.and_eq_true] at h
      exact .inr ⟨h.1, fun k nd hk => List.all_eq_true.1 h.2 _ (mem_of_lookup hk)⟩

theorem Stop.c {f : FuncId} {xs : List Opd} {d : Option Nat} {g : Option (Nat × Bool)} {a : List Nat} {m : Nat} {its : List It} {K : St → Prop} {args : List AV} {pre post : List (Nat × Node)} {r : AV} (hc : LCall P f args pre r post) (T : List Nat) (n : Nat) (hg : runs s g = some true)
    (ha : okArgs s T n (xs.map s.get) args) (hp : okPre s pre) (hk : okCall m args pre post r T = true) (hm : (m :: keys (bindR m r).2).all (fun k => !s.nm.contains k) = true)
    (h : RegC P its (s.app d (callEv m r pre post (T ++ keys pre))) K) : Stop P s ⟨.call f xs, d, g, a, m⟩ its K :=
  Stop.call hg (CallS.of T n hc ha hp hk) hm h
theorem StopD.c {f : FuncId} {xs : List Opd} {d : Option Nat} {g : Option (Nat × Bool)} {a : List Nat} {m : Nat} {its : List It} {acc : List (It × Ev)} {K : St → Prop} {args : List AV} {pre post : List (Nat × Node)} {r : AV} (hc : LCall P f args pre r post) (T : List Nat) (n : Nat) (hg : runs s g = some true)
    (ha : okArgs s T n (xs.map s.get) args) (hp : okPre s pre) (hk : okCall m args pre post r T = true) (hm : (m :: keys (bindR m r).2).all (fun k => !s.nm.contains k) = true)
    (h : RegCD P its ((⟨.call f xs, d, g, a, m⟩, callEv m r pre post (T ++ keys pre)) :: acc) (s.app d (callEv m r pre post (T ++ keys pre))) K) : StopD P s ⟨.call f xs, d, g, a, m⟩ its acc K :=
  StopD.call hg (CallS.of T n hc ha hp hk) hm h
end

theorem wrap_i64 {n : Int} (h1 : -9223372036854775808 ≤ n) (h2 : n < 9223372036854775808) : IntKind.wrap .i64 n = n := by
  simp [IntKind.wrap, IntKind.signed, IntKind.bits]; omega

attribute [go_sem] RegC RegCD I.eval I.calls runs St.get St.app St.put St.keep keepEnv List.lookup
  entry stOf argEnv AV.isAgg AV.cells loadV storeV lenV idxV binV binI binS unV slcV boundOf natOf buildV chunk srcV appV setCells mkV scEqs scEq nodeOf skipEv St.ob AV.one AV.plain AV.free frees keys Exit.thenK Exit.inB
  noneIn callEv bindR bind1 bind0 bindTup bindCells okArgs okPre okCall fzV namess AV.names Node.names Node.noF AV.noF noFs noFss St.fz fzN St.freeze St.nil St.phantom St.take renOf backOf AV.ren rens Node.ren okTake resV RS.val resOk

end Go.Proofs.YtbmlhmgldipnhabGreatE
