/- Arguments of a law opened: slices of numbers and of bools that came in. No program text. -/
import Derived.Test.YtdbhhnphpjdmbaaBase
import Derived.SizedLaws
import Derived.ChangeSlices
import Derived.Deep.Grids
namespace Go.Proofs.Ytdbhhnphpjdmbaa
open Go.RowKit Go.ChangeShapes Go.WideShapes Go.Deep
set_option maxRecDepth 100000
section
variable {H : Type} {enc : TypeId × Value → H} {P : Program} {W : World} {base : Nat} {held : Bool} {t e : TypeId} {a : Option Addr} {len cap : Nat} {d : DataW H} {ps : List MemPlace} {ts : List TypeId} {ds : List (DataW H)} {j B : Nat}
theorem arg_ints {k : IntKind} (hsz : (DataW.weightsEach P ts ds).all (· ≤ reachBytes) = true) (ht : ts[j]? = some t) (hd : ds[j]? = some d) (hu : P.underlying t = some (.slice e)) (he : P.underlying e = some (.int k)) (hc : P.cellsOf e = 1) (hB : P.bytesOf e = B)
    (h : DataW.Trod enc P W base (fun _ => true) held t (.slice a len cap) d ps) :
    ∃ xs : List Int, len = xs.length ∧ xs.length ≤ cap ∧ cap ≤ maxLen ∧ xs.length * B ≤ 140737488351232 ∧ Rd W a (xs.map (Value.int k)) ∧ ∀ x ∈ xs, (Lit.int k x).wf = true := by
  obtain ⟨fuel, hf⟩ := h
  rcases open_ints hu he hc hf with ⟨hcs, _⟩ | ⟨x, l, c, zs, hcs, _, hl, hm, hz, hx, hcell, hw⟩
  · simp [Value.cells] at hcs
    obtain ⟨rfl, rfl, rfl⟩ := hcs
    exact ⟨[], rfl, Nat.le_refl _, Nat.zero_le _, by simp, Rd.nil _ _, by simp⟩
  · simp [Value.cells] at hcs
    obtain ⟨rfl, rfl, rfl⟩ := hcs
    simp only [if_true] at hz
    obtain ⟨hx, _⟩ := Prod.mk.inj hx
    subst hx
    have z := sized_slice hsz ht hd hu
    rw [hB] at z
    have h1 : (lits (H := H) k (zs.take len)).length + (lits (H := H) k (zs.drop len)).length = zs.length := by
      simp [lits]
      omega
    rw [h1] at z
    have hlen : len = (zs.take len).length := by rw [List.length_take]; omega
    refine ⟨zs.take len, hlen, by omega, hm, ?_, fun _ => ⟨x, rfl, fun i v hv => ?_⟩, fun y hy => hw y (List.mem_of_mem_take hy)⟩
    · exact Nat.le_trans (Nat.mul_le_mul_right _ (by omega)) z
    · rw [List.getElem?_map, List.getElem?_take] at hv
      split at hv
      · rename_i hi
        have hi' : i < zs.length := by omega
        rw [List.getElem?_eq_getElem hi'] at hv
        simp at hv
        subst hv
        rw [hcell i hi']
        simp [List.getD_eq_getElem?_getD, List.getElem?_eq_getElem hi']
      · simp at hv
theorem arg_bools (hu : P.underlying t = some (.slice e)) (he : P.underlying e = some .bool) (hc : P.cellsOf e = 1)
    (h : DataW.Trod enc P W base (fun _ => true) held t (.slice a len cap) d ps) :
    ∃ xs : List Bool, len = xs.length ∧ xs.length ≤ cap ∧ cap ≤ maxLen ∧ Rd W a (xs.map Value.bool) := by
  obtain ⟨fuel, hf⟩ := h
  rcases open_bools hu he hc hf with ⟨hcs, _⟩ | ⟨x, l, c, Z, hcs, _, hl, hm, hx, hcell⟩
  · simp [Value.cells] at hcs
    obtain ⟨rfl, rfl, rfl⟩ := hcs
    exact ⟨[], rfl, Nat.le_refl _, Nat.zero_le _, Rd.nil _ _⟩
  · simp [Value.cells] at hcs
    obtain ⟨rfl, rfl, rfl⟩ := hcs
    refine ⟨(List.range len).map Z, by simp, by simpa using hl, hm, fun _ => ⟨x, rfl, fun i v hv => ?_⟩⟩
    rw [List.getElem?_map, List.getElem?_map] at hv
    by_cases hi : i < len
    · rw [List.getElem?_range hi] at hv
      simp at hv
      subst hv
      exact hcell i (by omega)
    · rw [List.getElem?_eq_none (by simpa using hi)] at hv
      simp at hv
end
end Go.Proofs.Ytdbhhnphpjdmbaa
