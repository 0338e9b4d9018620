/-
  The engine, part 13: cuts; then all operations together.
-/
import Derived.Test.YtbmlhmgldipnhabGreatE12
import Derived.Laws.MakeOwn
set_option linter.unusedVariables false
set_option linter.unusedSimpArgs false
namespace Go.Proofs.YtbmlhmgldipnhabGreatE
open Go

section
variable {P : Program} {N : Nat} {β : Places} {Z : Froz} {s : St} {a : Act} {w : World}

theorem natOf_run {x : AV} {u : Value} {n y : Nat} {code : BoundsCode} (hx : CRep β Z w x u) (h : natOf x = some n) (hy : n ≤ y) : (Instr.sliceBound u y code).run P w = .ok n w := by
  unfold natOf at h
  split at h
  · rename_i k i
    split at h
    · rename_i h0
      injection h with h
      rw [hx.sc_inv]
      have h1 : 0 ≤ i ∧ i ≤ (y : Int) := by omega
      simp [Instr.sliceBound, asIntOf, h1, h]
    · cases h
  · cases h

/-- The bounds of a cut. -/
theorem bounds_run (r : Rel N β Z s a w) {isS : Bool} {len cap : Nat} {lo hi : Option Operand} {lo' hi' : Option Opd} {l h : Nat} (hlo : cOpt lo = some lo') (hhi : cOpt hi = some hi') (hh : boundOf s.get len hi' = some h) (hl : boundOf s.get 0 lo' = some l) (h1 : l ≤ h) (h2 : h ≤ cap) :
    (Instr.sliceBounds isS len cap (lo.map a.eval) (hi.map a.eval) none).run P w = .ok (l, h, cap) w := by
  have e1 : ∀ (code : BoundsCode), ∀ v, hi.map a.eval = some v → (Instr.sliceBound v cap code).run P w = .ok h w := by
    intro code v hv
    cases hi with
    | none => cases hv
    | some x =>
      simp only [Option.map_some, Option.some.injEq] at hv
      subst hv
      simp only [cOpt] at hhi
      obtain ⟨y, hy, rfl⟩ := Option.map_eq_some_iff.1 hhi
      exact natOf_run (opd_rep r hy) hh h2
  have e2 : ∀ (code : BoundsCode), ∀ v, lo.map a.eval = some v → (Instr.sliceBound v h code).run P w = .ok l w := by
    intro code v hv
    cases lo with
    | none => cases hv
    | some x =>
      simp only [Option.map_some, Option.some.injEq] at hv
      subst hv
      simp only [cOpt] at hlo
      obtain ⟨y, hy, rfl⟩ := Option.map_eq_some_iff.1 hlo
      exact natOf_run (opd_rep r hy) hl h1
  have g1 : hi = none → h = len := fun e => by
    subst e
    simp only [cOpt, Option.some.injEq] at hhi
    subst hhi
    simpa [boundOf] using hh.symm
  have g2 : lo = none → l = 0 := fun e => by
    subst e
    simp only [cOpt, Option.some.injEq] at hlo
    subst hlo
    simpa [boundOf] using hl.symm
  cases hi with
  | none =>
    have := g1 rfl
    subst this
    cases lo with
    | none => have := g2 rfl; subst this; simp [Instr.sliceBounds]
    | some x => have := e2 .sliceB _ rfl; simp [Instr.sliceBounds, this]
  | some y =>
    have hy := fun c => e1 c _ rfl
    cases lo with
    | none => have := g2 rfl; subst this; simp [Instr.sliceBounds, hy]
    | some x => have := e2 .sliceB _ rfl; simp [Instr.sliceBounds, hy, this]

theorem slc_sound (r : Rel N β Z s a w) {t e : TypeId} {sz0 : Nat} (ht : P.underlying t = some (.slice e)) (hs : szOf P e = some sz0) {x : AV} {u : Value} {lo hi : Option Operand} {lo' hi' : Option Opd} (hlo : cOpt lo = some lo') (hhi : cOpt hi = some hi') {v : AV}
    (hx : CRep β Z w x u) (he : slcV s.get sz0 x lo' hi' = some v) : ∃ u', (Instr.sliceAt t u (lo.map a.eval) (hi.map a.eval) none).run P w = .ok u' w ∧ CRep β Z w v u' := by
  have run : ∀ (ad : Option Addr) (len cap l h : Nat), boundOf s.get len hi' = some h → boundOf s.get 0 lo' = some l → l ≤ h → h ≤ cap →
      (Instr.sliceAt t (.slice ad len cap) (lo.map a.eval) (hi.map a.eval) none).run P w = .ok (.slice (if cap = l then ad else ad.map (·.add (l * sz0))) (h - l) (cap - l)) w := by
    intro ad len cap l h h1 h2 h3 h4
    have := bounds_run (P := P) r (isS := true) hlo hhi h1 h2 h3 h4
    simp [Instr.sliceAt, run_underlying ht, Instr.slice, this, run_sizeOf' hs]
  unfold slcV at he
  split at he
  · simp only [Option.bind_eq_bind, Option.bind_eq_some_iff] at he
    obtain ⟨h, h1, l, h2, he⟩ := he
    split at he
    · rename_i hc
      injection he with he
      subst he
      cases hx with
      | fro hx =>
        cases hx
        refine ⟨_, run none 0 0 l h h1 h2 hc.1 hc.2, ?_⟩
        have e1 : l = 0 := by omega
        have e2 : h = 0 := by omega
        subst e1 e2
        exact .fro .nils
    · cases he
  · rename_i sz es
    simp only [Option.bind_eq_bind, Option.bind_eq_some_iff] at he
    obtain ⟨h, h1, l, h2, he⟩ := he
    split at he
    · rename_i hc
      obtain ⟨rfl, hc1, hc2⟩ := hc
      injection he with he
      subst he
      cases hx with
      | fro hx =>
        cases hx with
        | fempty _ ad cap =>
          simp only [List.length_nil] at hc2 h1
          have e1 : l = 0 := by omega
          have e2 : h = 0 := by omega
          subst e1 e2
          exact ⟨_, run ad 0 cap 0 0 h1 h2 (by omega) (by omega), by simpa using .fro (.fempty sz _ _)⟩
        | fsl _ _ b o cap f hcap hss hm hr =>
          refine ⟨_, run _ _ cap l h h1 h2 hc1 (by omega), ?_⟩
          by_cases e1 : cap = l
          · rw [if_pos e1]
            have e2 : h = l := by omega
            subst e2
            have e3 : (es.take h).drop h = [] := List.eq_nil_of_length_eq_zero (by rw [List.length_drop, List.length_take]; omega)
            rw [e3, e1, Nat.sub_self]
            exact .fro (.fempty _ _ _)
          · rw [if_neg e1]
            simp only [Option.map_some, add_at]
            have hl : ((es.take h).drop l).length = h - l := by simp; omega
            have hg : ∀ (i : Nat) (e : List AV), ((es.take h).drop l)[i]? = some e → es[l + i]? = some e ∧ i < h - l := fun i e he => by
              have hi : i < h - l := by have := (List.getElem?_eq_some_iff.1 he).1; omega
              rw [List.getElem?_drop, List.getElem?_take_of_lt (by omega)] at he
              exact ⟨he, hi⟩
            have hca : ∀ (i j : Nat) (c : AV), cellAt ((es.take h).drop l) i j = some c → cellAt es (l + i) j = some c := fun i j c hc => by
              obtain ⟨e, q1, q2, _, _⟩ := cellAt_lt hc
              simp [cellAt, (hg i e q1).1, q2]
            have := FRep.fsl (Z := Z) (w := w) sz ((es.take h).drop l) b (o + l * sz) (cap - l) (fun i j => f (l + i) j) (by rw [hl]; omega) (fun i e he => hss _ e (hg i e he).1)
              (fun i j c hc => by
                have := hm _ j c (hca i j c hc)
                rw [Nat.add_mul] at this
                rwa [show o + l * sz + (i * sz + j) = o + (l * sz + i * sz + j) by omega])
              (fun i j c hc => hr _ j c (hca i j c hc))
            rw [hl] at this
            exact .fro this
    · cases he
  · rename_i k sz i len
    simp only [Option.bind_eq_bind, Option.bind_eq_some_iff] at he
    obtain ⟨h, h1, l, h2, he⟩ := he
    split at he
    · rename_i hc
      obtain ⟨rfl, hc1, hc2⟩ := hc
      injection he with he
      subst he
      cases hx with
      | fro hx => cases hx
      | slE _ _ _ ad =>
        have e1 : l = 0 := by omega
        have e2 : h = 0 := by omega
        subst e1 e2
        refine ⟨_, run ad 0 0 0 0 h1 h2 (by omega) (by omega), ?_⟩
        simpa using CRep.slE k sz i ad
      | sl _ _ _ _ b o cap hb hcap hsh =>
        refine ⟨_, run _ _ cap l h h1 h2 hc1 (by omega), ?_⟩
        by_cases e1 : cap = l
        · rw [if_pos e1]
          have e2 : h = l := by omega
          subst e2
          rw [e1, Nat.sub_self]
          exact .slE k sz _ _
        · rw [if_neg e1]
          simp only [Option.map_some, add_at]
          obtain ⟨ty, n, g1, g2⟩ := hsh
          have hm : (l + (cap - l)) * sz = cap * sz := by congr 1; omega
          rw [Nat.add_mul] at hm
          have := CRep.sl (Z := Z) k sz (i + l) (h - l) b o (cap - l) hb (by omega) ⟨ty, n, g1, by rw [Nat.add_mul]; omega⟩
          rwa [Nat.add_mul, ← Nat.add_assoc] at this
    · cases he
  · cases he

theorem sslc_sound (r : Rel N β Z s a w) {t : TypeId} (ht : P.underlying t = some .string) {lo hi : Option Operand} {lo' hi' : Option Opd} (hlo : cOpt lo = some lo') (hhi : cOpt hi = some hi') {str : ByteArray} {l h : Nat}
    (h1 : boundOf s.get str.size hi' = some h) (h2 : boundOf s.get 0 lo' = some l) (h3 : l ≤ h) (h4 : h ≤ str.size) : (Instr.sliceAt t (.string str) (lo.map a.eval) (hi.map a.eval) none).run P w = .ok (.string (str.extract l h)) w := by
  have := bounds_run (P := P) r (isS := false) hlo hhi h1 h2 h3 h4
  simp [Instr.sliceAt, run_underlying ht, Instr.slice, this]

end

section
variable {P : Program} {N : Nat} {β : Places} {Z : Froz} {s : St} {a : Act} {w : World}

theorem made_flat {zs : List AV} {z : Array Value} (h : Cells β Z w zs z) {l c : Nat} (hlc : l ≤ c) : Flat (CRep β Z w) zs.length (List.replicate l zs) (fun x => (madeCells z (c * zs.length)).getD x undef) := by
  have hc := rep_cells h c
  refine ⟨fun i e he => ?_, fun i j v hv => ?_, fun x hx => ?_⟩
  · have := List.mem_of_getElem? he
    rw [List.mem_replicate] at this
    rw [this.2]
  · obtain ⟨e, h1, h2, h3, h4⟩ := cellAt_lt hv
    have he := List.mem_of_getElem? h1
    rw [List.mem_replicate] at he
    have he := he.2
    subst he
    simp only [List.length_replicate] at h3
    have hlt : i * e.length + j < c * e.length := by
      have : (i + 1) * e.length ≤ c * e.length := Nat.mul_le_mul_right _ (by omega)
      rw [Nat.add_mul] at this
      omega
    refine hc.rep _ v ?_
    rw [rep_flat_get e c _ hlt, Nat.mul_comm i, Nat.mul_add_mod, Nat.mod_eq_of_lt h4]
    exact h2
  · refine hc.one x ?_
    rw [hc.len, rep_flat_length]
    simp only [List.length_replicate] at hx
    have : l * zs.length ≤ c * zs.length := Nat.mul_le_mul_right _ hlc
    omega

theorem mksl_sound (r : Rel N β Z s a w) {m : Nat} (hm : m ∉ s.nm) {d : Option Nat} (hd : ∀ x, d = some x → x < N) {t e : TypeId} {i : TypeInfo} {z : Value} {zs : List AV} (ht : P.underlying t = some (.slice e)) (hi : P.info? e = some i) (hz : i.zero = some z) (hzs : ∀ (β : Places) (Z : Froz) (w : World), Cells β Z w zs z.cells) (hsz : i.size = zs.length)
    (kl kc : IntKind) (l c : Int) (h0 : 0 ≤ l) (hlc : l ≤ c) (hb : (i.bytes : Int) * c ≤ 281474976710656) (h63 : c ≤ 9223372036854775807) :
    ∃ u' w' β', (Instr.makeSlice t (.int kl l) (.int kc c)).run P w = .ok u' w' ∧ Rel N β' Z (s.new d (.sl m zs.length 0 l.toNat) m (nodeOf zs.length (List.replicate l.toNat zs))) (a.put d u') w' ∧ SExt β Z s w β' Z (s.new d (.sl m zs.length 0 l.toNat) m (nodeOf zs.length (List.replicate l.toNat zs))) w' := by
  have hle : l.toNat ≤ c.toNat := by omega
  have hc := rep_cells (hzs β Z w) c.toNat
  have hcl := hc.len
  rw [rep_flat_length] at hcl
  have hmul : l.toNat * zs.length ≤ c.toNat * zs.length := Nat.mul_le_mul_right _ hle
  have hrun := run_make w t e i z ht hi hz kl kc l c h0 hlc hb h63
  rw [hsz] at hrun
  refine ⟨_, _, β.set m (w.heap.size, 0), hrun, ?_⟩
  exact r.newRow (t := e) (arr := madeCells z.cells (c.toNat * zs.length)) hm hd _ (pushed w _) (made_flat (hzs β Z w) hle) (by simp only [List.length_replicate, size_madeCells]; exact hmul) (fun x hx => hc.one x (by rw [hc.len, rep_flat_length]; rwa [size_madeCells] at hx)) fun β' hβ hsh => by
    obtain ⟨ty, k, g1, g2, g3⟩ := hsh
    have := CRep.sl (β := β') (Z := Z) (w := w.alloc (.cells (madeCells z.cells (c.toNat * zs.length)) e)) m zs.length 0 l.toNat w.heap.size 0 c.toNat hβ hle ⟨ty, k, g1, by rw [g3, size_madeCells]; omega⟩
    simpa using this
end
end Go.Proofs.YtbmlhmgldipnhabGreatE
