/- A root as an argument of a law. -/
import Derived.Test.YtdbhhnphpjdmbaaRoot
import Derived.ProofKit
import Derived.OpenShut
import Derived.ChangeShapes
namespace Go.Proofs.Ytdbhhnphpjdmbaa
open Go.RowKit
set_option maxRecDepth 100000
set_option linter.unusedVariables false
set_option linter.unusedSimpArgs false
theorem trod_int {H : Type} {enc : TypeId × Value → H} {P : Program} {w : World} {base : Nat} {sp : Nat → Bool} {held : Bool} {fuel : Nat} {t : TypeId} {k : IntKind} {v : Value} {x : DataW H × List MemPlace} (ht : P.underlying t = some (.int k)) (h : DataW.trod enc P w base sp held fuel t [v] = some x) : ∃ n, v = .int k n ∧ (Lit.int k n).wf = true := by
  cases fuel with
  | zero => simp [DataW.trod] at h
  | succ f =>
    unfold DataW.trod at h
    rw [ht] at h
    cases v <;> simp at h
    rename_i k' n
    obtain ⟨⟨rfl, hw⟩, _⟩ := h
    exact ⟨n, rfl, hw⟩
theorem arg_root {H : Type} {enc : TypeId × Value → H} {W : World} {b0 base : Nat} {sp : Nat → Bool} {held : Bool} {v : Value} {d : DataW H} {ps : List MemPlace} (hval : Value.okWide Try.prog W .any b0 65 v) (h : DataW.Trod enc Try.prog W base sp held 65 v d ps) : ∃ r : Rt, v = r.val ∧ r.ok ∧ (Lit.int .i64 r.log).wf = true ∧ (Lit.int .i64 r.pages).wf = true := by
  unfold Value.okWide at hval
  rw [Try.underlying65] at hval
  obtain ⟨cs, rfl, hs, _⟩ := hval
  have hc : Try.prog.cellsOf 65 = 3 := by kernel_rfl
  rw [hc] at hs
  obtain ⟨fuel, h⟩ := h
  cases fuel with
  | zero => simp [DataW.trod] at h
  | succ f =>
    unfold DataW.trod at h
    rw [Try.underlying65] at h
    have hc3 : Try.prog.cellsOf 3 = 1 := by kernel_rfl
    have hc61 : Try.prog.cellsOf 61 = 1 := by kernel_rfl
    obtain ⟨a, b, c, rfl⟩ : ∃ a b c, cs = #[a, b, c] := by
      obtain ⟨l⟩ := cs
      match l, hs with
      | [a, b, c], _ => exact ⟨a, b, c, rfl⟩
    simp only [Value.cells, hc, List.length_cons, List.length_nil, if_true, List.mapM_cons, List.mapM_nil, List.drop_zero, List.drop_succ_cons, hc3, hc61, List.take_succ_cons, List.take_zero] at h
    cases h1 : DataW.trod enc Try.prog W base sp held f 3 [a] with
    | none => simp [h1] at h
    | some x1 =>
      cases h2 : DataW.trod enc Try.prog W base sp held f 3 [b] with
      | none => simp [h1, h2] at h
      | some x2 =>
        cases h3 : DataW.trod enc Try.prog W base sp held f 61 [c] with
        | none => simp [h1, h2, h3] at h
        | some x3 =>
          obtain ⟨l, rfl, w1⟩ := trod_int Try.underlying3 h1
          obtain ⟨p, rfl, w2⟩ := trod_int Try.underlying3 h2
          obtain ⟨e, rfl, w3⟩ := trod_int Try.underlying61 h3
          refine ⟨⟨l, p, e⟩, rfl, ?_, w1, w2⟩
          simp [Lit.wf, IntKind.min, IntKind.max, IntKind.signed, IntKind.bits] at w3
          exact ⟨by show (0 : Int) ≤ e; omega, by show e < 4294967296; omega⟩
end Go.Proofs.Ytdbhhnphpjdmbaa
