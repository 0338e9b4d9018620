/-
  The engine, part 6: the model's operations do what part 4 says: the rest of those that write nothing.
-/
import Derived.Test.YtbmlhmgldipnhabGreatE5
import Derived.Laws.StructEq
set_option linter.unusedVariables false
set_option linter.unusedSimpArgs false
namespace Go.Proofs.YtbmlhmgldipnhabGreatE
open Go

section
variable {P : Program} {β : Places} {Z : Froz} {w : World}

theorem CRep.sc_inv {v u : Value} (h : CRep β Z w (.sc v) u) : u = v := by
  cases h with
  | fro h => cases h; rfl

theorem run_fieldAt {t : TypeId} {fs : Array Field} {f : Nat} {fl : Field} {n : Nat} (ht : P.underlying t = some (.struct fs)) (hf : fs[f]? = some fl) (hn : szOf P fl.type = some n) (h0 : n ≠ 0) (b o : Nat) :
    (Instr.fieldAt t (.pointer (some ⟨b, o, none⟩)) f).run P w = .ok (.pointer (some ⟨b, o + fl.offset, none⟩)) w := by
  simp [Instr.fieldAt, run_underlying ht, hf, Instr.sureAddr, fieldPlace, run_sizeOf' hn, h0, add_at]

theorem fld_sound {t : TypeId} {fs : Array Field} {f : Nat} {fl : Field} {n : Nat} (ht : P.underlying t = some (.struct fs)) (hf : fs[f]? = some fl) (hn : szOf P fl.type = some n) (h0 : n ≠ 0) {x : Opd} {g : Opd → AV} {ob : Nat → Option Node} {m : Nat} {u : Value} {ev : Ev}
    (hx : CRep β Z w (g x) u) (he : (I.fld x fl.offset).eval g ob m = some ev) : ∃ u', (Instr.fieldAt t u f).run P w = .ok u' w ∧ CRep β Z w ev.v u' ∧ ev.U = [] ∧ ev.C = [] := by
  simp only [I.eval] at he
  generalize g x = v at hx he
  cases v <;> simp only at he <;> try (cases he; done)
  case fp cs =>
    injection he with he
    subst he
    cases hx with
    | fro hx =>
      cases hx with
      | fp _ b o f' hm hr =>
        refine ⟨_, run_fieldAt ht hf hn h0 b o, .fro (.fp _ b (o + fl.offset) (fun j => f' (fl.offset + j)) (fun j c hc => ?_) (fun j c hc => ?_)), rfl, rfl⟩
        · rw [List.getElem?_drop] at hc
          have := hm _ c hc
          rw [Nat.add_assoc]
          exact this
        · rw [List.getElem?_drop] at hc
          exact hr _ c hc
  case ptr k z i off =>
    injection he with he
    subst he
    cases hx with
    | fro hx => cases hx
    | ptr _ _ _ _ b o hb =>
      refine ⟨_, run_fieldAt ht hf hn h0 _ _, ?_, rfl, rfl⟩
      rw [Nat.add_assoc]
      exact .ptr k z i _ b o hb

theorem idxV_sound {t e : TypeId} {sz : Nat} (ht : P.underlying t = some (.slice e)) (hn : szOf P e = some sz) {x i v : AV} {u ui : Value} (hx : CRep β Z w x u) (hi : CRep β Z w i ui) (he : idxV sz x i = some v) :
    ∃ u', (Instr.indexAt t u ui).run P w = .ok u' w ∧ CRep β Z w v u' := by
  unfold idxV at he
  split at he
  · rename_i z es k n
    split at he
    · rename_i hz
      obtain ⟨rfl, h0⟩ := hz
      obtain ⟨el, hel, rfl⟩ := Option.map_eq_some_iff.1 he
      rw [hi.sc_inv]
      have hlt : n.toNat < es.length := (List.getElem?_eq_some_iff.1 hel).1
      cases hx with
      | fro hx =>
        cases hx with
        | fempty => simp at hlt
        | fsl _ _ b o cap f hc hs hm hr =>
          refine ⟨.pointer (some ⟨b, o + n.toNat * z, none⟩), ?_, .fro (.fp el b (o + n.toNat * z) (f n.toNat) (fun j c hc' => ?_) (fun j c hc' => ?_))⟩
          · have : n < es.length := by omega
            simp [Instr.indexAt, asIntOf, run_underlying ht, run_sizeOf' hn, h0, this, add_at]
          · have := hm n.toNat j c (by simp [cellAt, hel, hc'])
            rw [Nat.add_assoc]
            exact this
          · exact hr n.toNat j c (by simp [cellAt, hel, hc'])
    · cases he
  · rename_i k z i0 len kk n
    split at he
    · rename_i hz
      obtain ⟨rfl, h0, hlt⟩ := hz
      injection he with he
      subst he
      rw [hi.sc_inv]
      cases hx with
      | fro hx => cases hx
      | slE => omega
      | sl _ _ _ _ b o cap hb hc hs =>
        refine ⟨.pointer (some ⟨b, o + i0 * z + n.toNat * z, none⟩), ?_, ?_⟩
        · simp [Instr.indexAt, asIntOf, run_underlying ht, run_sizeOf' hn, h0, hlt, add_at]
        · have := CRep.ptr (Z := Z) (w := w) k z (i0 + n.toNat) 0 b o hb
          rwa [Nat.add_zero, Nat.add_mul, ← Nat.add_assoc] at this
    · cases he
  · cases he

theorem lenV_sound {t ty : TypeId} {x : AV} {u : Value} {n : Int} {str : Bool} (hk : str = true → P.underlying t = some .string) (hk' : str = false → ∃ e, P.underlying t = some (.slice e)) (hx : CRep β Z w x u) (he : lenV str x = some n) :
    (Builtin.len_ #[t] ty #[u]).run P w = .ok (.int .i64 n) w := by
  unfold lenV at he
  split at he
  · injection he with he
    subst he
    cases hx with
    | fro hx => cases hx; obtain ⟨e, ht⟩ := hk' rfl; simp [Builtin.len_, run_underlying ht, goInt]
  · injection he with he
    subst he
    obtain ⟨e, ht⟩ := hk' rfl
    cases hx with
    | fro hx => cases hx <;> simp [Builtin.len_, run_underlying ht, goInt]
  · injection he with he
    subst he
    obtain ⟨e, ht⟩ := hk' rfl
    cases hx with
    | fro hx => cases hx
    | slE => simp [Builtin.len_, run_underlying ht, goInt]
    | sl => simp [Builtin.len_, run_underlying ht, goInt]
  · injection he with he
    subst he
    rw [hx.sc_inv]
    simp [Builtin.len_, run_underlying (hk rfl), goInt]
  · cases he

theorem nilck_sound {x : AV} {u : Value} {v : AV} (o : Oper) (ρ : Operand → Value) {y : Operand} (ho : o.op = .nilCheck y) (hy : ρ y = u)
    (he : (match x with
      | .fp cs => some (AV.fp cs)
      | .ptr k z i o => some (.ptr k z i o)
      | .fn f a b => some (.fn f a b)
      | _ => none) = some v) (hx : CRep β Z w x u) : (execOp ρ o).run P w = .ok (.value u) w ∧ CRep β Z w v u := by
  cases x <;> simp only at he <;> try (cases he; done)
  case fp cs =>
    injection he with he
    subst he
    refine ⟨?_, hx⟩
    cases hx with
    | fro hx => cases hx; simp [execOp, ho, hy]
  case ptr k z i o' =>
    injection he with he
    subst he
    refine ⟨?_, hx⟩
    cases hx with
    | fro hx => cases hx
    | ptr => simp [execOp, ho, hy]
  case fn f fs cs =>
    injection he with he
    subst he
    refine ⟨?_, hx⟩
    cases hx with
    | fro hx => cases hx; simp [execOp, ho, hy]
    | fn => simp [execOp, ho, hy]

theorem binI_sound {op : BinOp} {k : IntKind} {a b : Int} {v : AV} (h : binI op k a b = some v) :
    ∃ u, ((match op with
      | .add | .sub | .mul => Op.intArith op k a b
      | .quo | .rem => Op.intDiv op k a b
      | .and | .or | .xor | .andNot => Op.intBits op k a b
      | _ => Op.intCmp op a b : Sem Value)).run P w = .ok u w ∧ CRep β Z w v u := by
  cases op <;> simp only [binI] at h <;> first
    | (cases h; done)
    | (injection h with h; subst h; exact ⟨_, rfl, .fro (.sc _ rfl)⟩)
    | (split at h
       · cases h
       · rename_i h0; injection h with h; subst h; exact ⟨_, by simp only [Op.intDiv, h0, if_false]; rfl, .fro (.sc _ rfl)⟩)

theorem binS_sound {op : BinOp} {a b : ByteArray} {v : AV} (h : binS op a b = some v) : ∃ u, (Op.stringOp op a b).run P w = .ok u w ∧ CRep β Z w v u := by
  cases op <;> simp only [binS] at h <;> first
    | (cases h; done)
    | (injection h with h; subst h; exact ⟨_, by simp only [Op.stringOp, beq_toListBytes]; rfl, .fro (.sc _ rfl)⟩)
    | (split at h
       · rename_i h0
         injection h with h; subst h
         refine ⟨_, ?_, .fro (.sc _ rfl)⟩
         have h1 : ¬ (((a.size + b.size : Nat) : Int) > IntKind.i64.max) := by
           have : IntKind.i64.max = 9223372036854775807 := by decide
           rw [this]; omega
         simp only [Op.stringOp, h1, if_false]
         rfl
       · cases h)

/-- Not '==' and '!=' of what is neither a number nor a string. -/
theorem binV_sound {op : BinOp} {t : TypeId} {x y v : AV} {u u' : Value} (hx : CRep β Z w x u) (hy : CRep β Z w y u') (h : binV op x y = some v) (ρx ρy : Operand) :
    ∃ r, (do eqGuard op t ρx ρy u u'; binOp op t u u' : Sem Value).run P w = .ok r w ∧ CRep β Z w v r := by
  unfold binV at h
  split at h
  · rename_i k a k' b
    rw [hx.sc_inv, hy.sc_inv]
    have hg : (eqGuard op t ρx ρy (.int k a) (.int k' b)).run P w = .ok () w := by
      unfold eqGuard
      split <;> simp
    simp only [Sem.run_bind, hg, Result.andThen_ok]
    split at h
    · split at h
      · cases h
      · rename_i h0
        injection h with h
        subst h
        exact ⟨_, by simp only [binOp, Op.shift, h0, if_false]; rfl, .fro (.sc _ rfl)⟩
    · split at h
      · cases h
      · rename_i h0
        injection h with h
        subst h
        exact ⟨_, by simp only [binOp, Op.shift, h0, if_false]; rfl, .fro (.sc _ rfl)⟩
    · rename_i h1 h2
      split at h
      · rename_i hk
        subst hk
        obtain ⟨r, h3, h4⟩ := binI_sound (P := P) (β := β) (Z := Z) (w := w) h
        refine ⟨r, ?_, h4⟩
        cases op <;> first
          | (exact absurd rfl h1)
          | (exact absurd rfl h2)
          | (simp only [binOp, ne_eq, not_true_eq_false, if_false]; exact h3)
      · cases h
  · rename_i a b
    rw [hx.sc_inv, hy.sc_inv]
    have hg : (eqGuard op t ρx ρy (.string a) (.string b)).run P w = .ok () w := by
      unfold eqGuard
      split <;> simp
    obtain ⟨r, h3, h4⟩ := binS_sound (P := P) (β := β) (Z := Z) (w := w) h
    refine ⟨r, ?_, h4⟩
    simp only [Sem.run_bind, hg, Result.andThen_ok]
    cases op <;> first | exact h3 | (simp [binS] at h; done)
  · cases h

theorem unV_sound {op : UnOp} {x v : AV} {u : Value} (hx : CRep β Z w x u) (h : unV op x = some v) : ∃ r, (Op.unary op u).run P w = .ok r w ∧ CRep β Z w v r := by
  unfold unV at h
  split at h
  · rw [hx.sc_inv]
    split at h
    · injection h with h; subst h; exact ⟨_, rfl, .fro (.sc _ rfl)⟩
    · cases h
  · rw [hx.sc_inv]
    split at h
    · injection h with h; subst h; exact ⟨_, rfl, .fro (.sc _ rfl)⟩
    · injection h with h; subst h; exact ⟨_, rfl, .fro (.sc _ rfl)⟩
    · cases h
  · cases h

theorem ext_sound {v : AV} {u : Value} {i : Nat} {vs : List AV} (hx : CRep β Z w (.tup vs) u) (h : vs[i]? = some v) : ∃ r, (Instr.extract u i).run P w = .ok r w ∧ CRep β Z w v r := by
  have fin : ∀ us : Array Value, vs.length = us.size → (∀ j c, vs[j]? = some c → CRep β Z w c (us.getD j undef)) → ∃ r, (Instr.extract (.tuple us) i).run P w = .ok r w ∧ CRep β Z w v r := fun us hl hr => by
    have hi : i < vs.length := (List.getElem?_eq_some_iff.1 h).1
    have hi' : i < us.size := by omega
    refine ⟨us.getD i undef, ?_, hr i v h⟩
    simp [Instr.extract, hi', Array.getD_eq_getD_getElem?]
  cases hx with
  | fro hx => cases hx with
    | tup _ us hl hr => exact fin us hl fun j c hc => .fro (hr j c hc)
  | tup _ us hl hr => exact fin us hl hr

end
end Go.Proofs.YtbmlhmgldipnhabGreatE
