/-
  The engine, part 26: how calls end, the usual ways.
-/
import Derived.Test.YtbmlhmgldipnhabGreatE25
set_option linter.unusedVariables false
set_option linter.unusedSimpArgs false
namespace Go.Proofs.YtbmlhmgldipnhabGreatE
open Go

/-- A value that reaches no object, whatever is asked of it. -/
def AV.flat : AV → Bool
  | .sc _ | .nils | .fsl _ _ | .fp _ | .fmp _ | .dead => true
  | _ => false
theorem flat_ren {v : AV} (h : v.flat = true) (ρ : Nat → Nat) : v.ren ρ = v := by cases v <;> simp_all [AV.flat, AV.ren]
theorem flat_names {v : AV} (h : v.flat = true) (l : List Nat) : v.names l = true := by cases v <;> simp_all [AV.flat, AV.names]
theorem flats_ren {cs : List AV} (h : cs.all AV.flat = true) (ρ : Nat → Nat) : rens ρ cs = cs := by
  induction cs with
  | nil => rfl
  | cons c cs ih =>
    simp only [List.all_cons, Bool.and_eq_true] at h
    simp [rens, flat_ren h.1, ih h.2]
theorem flats_names {cs : List AV} (h : cs.all AV.flat = true) (l : List Nat) : namess l cs = true := by
  induction cs with
  | nil => rfl
  | cons c cs ih =>
    simp only [List.all_cons, Bool.and_eq_true] at h
    simp [namess, flat_names h.1, ih h.2]
theorem flats_bind {cs : List AV} (h : cs.all AV.flat = true) : ∀ n, bindCells n cs = (cs, []) := by
  induction cs with
  | nil => intro n; rfl
  | cons c cs ih =>
    intro n
    simp only [List.all_cons, Bool.and_eq_true] at h
    have : bind0 n c = (c, []) := by cases c <;> simp_all [AV.flat, bind0]
    simp [bindCells, this, ih h.2]

/-- What a call gives that brings no object: flat, or a struct or a tuple of such. -/
def AV.still1 : AV → Bool
  | .agg cs => cs.all AV.flat
  | v => v.flat
def AV.still : AV → Bool
  | .tup vs => vs.all AV.still1
  | v => v.still1
theorem still1_cases {v : AV} (h : v.still1 = true) : (∃ cs, v = .agg cs ∧ cs.all AV.flat = true) ∨ v.flat = true := by
  cases v with
  | agg cs => exact .inl ⟨cs, rfl, h⟩
  | _ => exact .inr h
theorem flat_bind0 {v : AV} (h : v.flat = true) (n : Nat) : bind0 n v = (v, []) := by cases v <;> simp_all [AV.flat, bind0]
theorem flat_bind1 {v : AV} (h : v.flat = true) (n : Nat) : bind1 n v = (v, []) := by cases v <;> simp_all [AV.flat, bind1, bind0]
theorem still_bind1 {v : AV} (h : v.still1 = true) (n : Nat) : bind1 n v = (v, []) := by
  rcases still1_cases h with ⟨cs, rfl, h⟩ | h
  · simp [bind1, flats_bind h]
  · exact flat_bind1 h n
theorem still_ren1 {v : AV} (h : v.still1 = true) (ρ : Nat → Nat) : v.ren ρ = v := by
  rcases still1_cases h with ⟨cs, rfl, h⟩ | h
  · simp only [AV.ren, flats_ren h]
  · exact flat_ren h ρ
theorem still_names1 {v : AV} (h : v.still1 = true) (l : List Nat) : v.names l = true := by
  rcases still1_cases h with ⟨cs, rfl, h⟩ | h
  · simp only [AV.names, flats_names h]
  · exact flat_names h l
theorem still_tup {vs : List AV} (h : vs.all AV.still1 = true) (n : Nat) (ρ : Nat → Nat) (l : List Nat) : bindTup n vs = (vs, []) ∧ rens ρ vs = vs ∧ namess l vs = true := by
  induction vs generalizing n with
  | nil => exact ⟨rfl, rfl, rfl⟩
  | cons v vs ih =>
    simp only [List.all_cons, Bool.and_eq_true] at h
    obtain ⟨h1, h2, h3⟩ := ih h.2 (n + 20)
    simp [bindTup, still_bind1 h.1, h1, rens, still_ren1 h.1, h2, namess, still_names1 h.1, h3]
theorem still_cases {v : AV} (h : v.still = true) : (∃ vs, v = .tup vs ∧ vs.all AV.still1 = true) ∨ (v.still1 = true ∧ ∀ vs, v ≠ .tup vs) := by
  cases v with
  | tup vs => exact .inl ⟨vs, rfl, h⟩
  | _ => exact .inr ⟨h, fun vs h => by cases h⟩
theorem bind1_eq {v : AV} (h : ∀ vs, v ≠ .tup vs) (n : Nat) : bindR n v = bind1 n v := by
  cases v <;> first | rfl | exact absurd rfl (h _)
theorem still_bind {v : AV} (h : v.still = true) (n : Nat) : bindR n v = (v, []) := by
  rcases still_cases h with ⟨vs, rfl, h⟩ | ⟨h, h'⟩
  · simp only [bindR, (still_tup h n id []).1]
  · rw [bind1_eq h']; exact still_bind1 h n
theorem still_ren {v : AV} (h : v.still = true) (ρ : Nat → Nat) : v.ren ρ = v := by
  rcases still_cases h with ⟨vs, rfl, h⟩ | ⟨h, h'⟩
  · simp only [AV.ren, (still_tup h 0 ρ []).2.1]
  · exact still_ren1 h ρ
theorem still_names {v : AV} (h : v.still = true) (l : List Nat) : v.names l = true := by
  rcases still_cases h with ⟨vs, rfl, h⟩ | ⟨h, h'⟩
  · simp only [AV.names, (still_tup h 0 id l).2.2]
  · exact still_names1 h l

def Node.isRow : Node → Bool
  | .row _ _ => true
  | _ => false
theorem row_ren {nd : Node} (h : nd.isRow = true) (ρ : Nat → Nat) : nd.ren ρ = nd := by cases nd <;> simp_all [Node.isRow, Node.ren]
theorem row_names {nd : Node} (h : nd.isRow = true) (l : List Nat) : nd.names l = true := by cases nd <;> simp_all [Node.isRow, Node.names]

/-- The objects that were handed over, as they stand at the end. -/
def okPost (s : St) : List (Nat × Node) → Prop
  | [] => True
  | p :: ps => s.ob p.1 = some p.2 ∧ p.2.isRow = true ∧ okPost s ps
theorem okPost.spec {s : St} : ∀ (ps : List (Nat × Node)), okPost s ps → ∀ k nd, ps.lookup k = some nd → s.ob k = some nd ∧ nd.isRow = true
  | [], _, k, nd, h => by simp at h
  | (q, u) :: ps, h, k, nd, hk => by
    by_cases e : k = q
    · subst e
      rw [lookup_cons_eq] at hk
      injection hk with hk
      subst hk
      exact ⟨h.1, h.2.1⟩
    · rw [lookup_cons_ne e] at hk
      exact okPost.spec ps h.2.2 k nd hk

def okKeys (pre post : List (Nat × Node)) : Bool := (keys post).all (fun k => (keys pre).contains k) && (keys pre).all fun k => decide (k < 100)

/-- A result without objects. -/
theorem Ends.still {s : St} {ts : List RS} {r : AV} {pre post : List (Nat × Node)} (hok : resOk s ts) (hr : resV s ts = r) (hf : r.still = true) (hp : okPost s post) (hk : okKeys pre post = true) : Ends s ts r pre post [] := by
  simp only [okKeys, Bool.and_eq_true] at hk
  refine ⟨fun n _ => ⟨by rw [still_bind hf, hr, still_ren hf], by rw [hr]; exact still_names hf _, fun j nd h => by rw [still_bind hf] at h; simp at h, fun k nd h => ?_, fun i k h => by simp at h⟩, fun i k h => by simp at h, fun i k h => by simp at h, fun i k h => by simp at h, fun k h => by simpa using List.all_eq_true.1 hk.1 k h, fun k h => by simpa using List.all_eq_true.1 hk.2 k h, hok⟩
  obtain ⟨h1, h2⟩ := okPost.spec post hp k nd h
  exact ⟨nd, h1, row_names h2 _, (row_ren h2 _).symm⟩

/-- A result that is one new object: a slice, a struct. -/
theorem Ends.one {s : St} {t k : Nat} {v : AV} {nd : Node} {r : AV} {pre post : List (Nat × Node)} (hr : s.get (.t t) = v) (hb : ∀ n, bindR n r = (v.ren fun _ => n, [(n, nd)])) (hv : (∃ sz i len, v = .sl k sz i len) ∨ ∃ sz i off, v = .ptr k sz i off)
    (ho : s.ob k = some nd) (hn : nd.isRow = true) (hp : okPost s post) (hk : okKeys pre post = true) (hkp : (keys pre).contains k = false) : Ends s [.slot t] r pre post [(0, k)] := by
  simp only [okKeys, Bool.and_eq_true] at hk
  have hkp' : k ∉ keys pre := by simpa using hkp
  refine ⟨fun n _ => ⟨?_, ?_, fun j nd' h => ?_, fun k nd h => ?_, fun i k' h => ?_⟩, fun i k' h => ?_, fun i k' h => ?_, fun i k' h => ?_, fun k h => by simpa using List.all_eq_true.1 hk.1 k h, fun k h => by simpa using List.all_eq_true.1 hk.2 k h, trivial⟩
  · rw [hb]
    show _ = (s.get (.t t)).ren _
    rw [hr]
    rcases hv with ⟨sz, i, len, rfl⟩ | ⟨sz, i, off, rfl⟩ <;> simp [AV.ren, ownRen]
  · show (s.get (.t t)).names _ = true
    rw [hr]
    rcases hv with ⟨sz, i, len, rfl⟩ | ⟨sz, i, off, rfl⟩ <;> simp [AV.names]
  · rw [hb] at h
    by_cases e : j = n
    · subst e
      simp only [lookup_cons_eq, Option.some.injEq] at h
      subst h
      exact ⟨0, k, nd, by simp, rfl, ho, row_names hn _, (row_ren hn _).symm⟩
    · simp [lookup_cons_ne e] at h
  · obtain ⟨h1, h2⟩ := okPost.spec post hp k nd h
    exact ⟨nd, h1, row_names h2 _, (row_ren h2 _).symm⟩
  · simp only [List.mem_singleton, Prod.mk.injEq] at h
    rw [hb, h.1]
    simp [keys]
  · simp only [List.mem_singleton, Prod.mk.injEq] at h
    simp [h.1, h.2, List.lookup_cons]
  · simp only [List.mem_singleton, Prod.mk.injEq] at h
    simp [h.1, h.2, List.lookup_cons]
  · simp only [List.mem_singleton, Prod.mk.injEq] at h
    rw [h.2]; exact hkp'

theorem Ends.optr {s : St} {t k : Nat} {cs : List AV} {pre post : List (Nat × Node)} (hr : s.get (.t t) = .ptr k cs.length 0 0) (ho : s.ob k = some (.row cs.length [cs])) (hc : cs.all AV.flat = true) (hc' : cs.all AV.plain = true) (hp : okPost s post) (hk : okKeys pre post = true) (hkp : (keys pre).contains k = false) :
    Ends s [.slot t] (.optr cs) pre post [(0, k)] :=
  Ends.one hr (nd := .row cs.length [cs]) (fun n => by simp [bindR, bind1, flats_bind hc, AV.ren, nodeOf, hc']) (.inr ⟨_, _, _, rfl⟩) ho rfl hp hk hkp
theorem Ends.own {s : St} {t k sz : Nat} {es : List (List AV)} {pre post : List (Nat × Node)} (hr : s.get (.t t) = .sl k sz 0 es.length) (ho : s.ob k = some (.row sz es)) (hc : (es.all fun e => e.all AV.plain) = true) (hp : okPost s post) (hk : okKeys pre post = true) (hkp : (keys pre).contains k = false) :
    Ends s [.slot t] (.own sz es) pre post [(0, k)] :=
  Ends.one hr (nd := .row sz es) (fun n => by simp only [bindR, bind1, bind0, AV.ren, nodeOf, hc, if_true]) (.inl ⟨_, _, _, rfl⟩) ho rfl hp hk hkp

attribute [go_sem] AV.flat AV.still AV.still1 Node.isRow okPost okKeys

end Go.Proofs.YtbmlhmgldipnhabGreatE
