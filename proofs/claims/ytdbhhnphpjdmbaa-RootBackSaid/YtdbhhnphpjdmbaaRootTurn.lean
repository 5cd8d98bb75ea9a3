/- Roots, in plain words: a byte turned turns the sum; a root with one of its first twenty bytes turned is none. -/
import Derived.Test.YtdbhhnphpjdmbaaRootPure
namespace Go.Proofs.Ytdbhhnphpjdmbaa
open Go.RowKit
set_option maxRecDepth 100000
set_option linter.unusedVariables false
set_option linter.unusedSimpArgs false
/-- a sum's step on numbers of four bytes -/
def stepV (x : BitVec 32) (b : UInt8) : BitVec 32 := (x ^^^ BitVec.ofNat 32 b.toNat) * 16777619#32
theorem fnvStep_bv (h : Int) (b : UInt8) : fnvStep h b = ((stepV (BitVec.ofInt 32 h) b).toNat : Int) := by
  have e : BitVec.ofInt IntKind.u32.bits (b.toNat : Int) = BitVec.ofNat 32 b.toNat := rfl
  unfold fnvStep bits stepV
  simp only [e]
  have hb : IntKind.u32.bits = 32 := rfl
  have h2 : ∀ v : BitVec 32, IntKind.u32.wrap (v.toNat : Int) = v.toNat := fun v => by
    have := v.isLt
    simp [IntKind.wrap, IntKind.signed, IntKind.bits]
    omega
  show IntKind.u32.wrap (((BitVec.ofInt 32 h ^^^ BitVec.ofNat 32 b.toNat : BitVec 32).toNat : Int)) * 16777619 % 4294967296 = _
  rw [h2, BitVec.toNat_mul]
  generalize (BitVec.ofInt 32 h ^^^ BitVec.ofNat 32 b.toNat : BitVec 32).toNat = n
  simp
theorem mul_cancel {x y : BitVec 32} (h : x * 16777619#32 = y * 16777619#32) : x = y := by
  have h1 : ∀ z : BitVec 32, z * 16777619#32 * 899433627#32 = z := fun z => by
    rw [BitVec.mul_assoc, show (16777619#32 * 899433627#32 : BitVec 32) = 1#32 from by decide, BitVec.mul_one]
  rw [← h1 x, h, h1]
theorem xor_cancel {w : Nat} {x y z : BitVec w} (h : x ^^^ z = y ^^^ z) : x = y := by
  have : x ^^^ z ^^^ z = y ^^^ z ^^^ z := by rw [h]
  simpa [BitVec.xor_assoc] using this
theorem fnvStep_inj_h {g h : Int} {b : UInt8} (g0 : 0 ≤ g) (g1 : g < 4294967296) (h0 : 0 ≤ h) (h1 : h < 4294967296) (e : fnvStep g b = fnvStep h b) : g = h := by
  rw [fnvStep_bv, fnvStep_bv] at e
  have e2 : stepV (BitVec.ofInt 32 g) b = stepV (BitVec.ofInt 32 h) b := BitVec.eq_of_toNat_eq (by omega)
  have e3 := xor_cancel (mul_cancel e2)
  have e4 := congrArg BitVec.toNat e3
  rw [BitVec.toNat_ofInt, BitVec.toNat_ofInt] at e4
  omega
theorem fnvStep_inj_b {h : Int} {a b : UInt8} (e : fnvStep h a = fnvStep h b) : a = b := by
  rw [fnvStep_bv, fnvStep_bv] at e
  have e2 : stepV (BitVec.ofInt 32 h) a = stepV (BitVec.ofInt 32 h) b := BitVec.eq_of_toNat_eq (by omega)
  have e3 := mul_cancel e2
  rw [BitVec.xor_comm _ (BitVec.ofNat 32 a.toNat), BitVec.xor_comm _ (BitVec.ofNat 32 b.toNat)] at e3
  have e4 := congrArg BitVec.toNat (xor_cancel e3)
  have ha := a.toNat_lt
  have hb := b.toNat_lt
  rw [BitVec.toNat_ofNat, BitVec.toNat_ofNat] at e4
  exact UInt8.toNat_inj.1 (by omega)
theorem foldl_range (l : List UInt8) (h : Int) (h0 : 0 ≤ h) (h1 : h < 4294967296) : 0 ≤ l.foldl fnvStep h ∧ l.foldl fnvStep h < 4294967296 := by
  induction l generalizing h with
  | nil => exact ⟨h0, h1⟩
  | cons b l ih => exact ih _ (fnvStep_range h b).1 (fnvStep_range h b).2
theorem foldl_inj (l : List UInt8) (g h : Int) (g0 : 0 ≤ g) (g1 : g < 4294967296) (h0 : 0 ≤ h) (h1 : h < 4294967296) (e : l.foldl fnvStep g = l.foldl fnvStep h) : g = h := by
  induction l generalizing g h with
  | nil => exact e
  | cons b l ih => exact fnvStep_inj_h g0 g1 h0 h1 (ih _ _ (fnvStep_range g b).1 (fnvStep_range g b).2 (fnvStep_range h b).1 (fnvStep_range h b).2 e)
/-- a byte turned turns the sum -/
theorem fnv_turned (l : List UInt8) (i : Nat) (hi : i < l.length) (b : UInt8) (e : fnv (l.set i b) = fnv l) : l.set i b = l := by
  have hl : l = l.take i ++ l[i] :: l.drop (i + 1) := by rw [List.getElem_cons_drop, List.take_append_drop]
  have hs : l.set i b = l.take i ++ b :: l.drop (i + 1) := by rw [List.set_eq_take_append_cons_drop, if_pos hi]
  unfold fnv at e
  rw [hs] at e
  conv at e => rhs; rw [hl]
  rw [List.foldl_append, List.foldl_append, List.foldl_cons, List.foldl_cons] at e
  have h2 := foldl_inj _ _ _ (fnvStep_range _ _).1 (fnvStep_range _ _).2 (fnvStep_range _ _).1 (fnvStep_range _ _).2 e
  have h3 := fnvStep_inj_b h2
  rw [h3]
  simp
theorem put4_inj {x y : Int} (x0 : 0 ≤ x) (x1 : x < 4294967296) (y0 : 0 ≤ y) (y1 : y < 4294967296) (e : put4 x = put4 y) : x = y := by
  rw [← put4_get x x0 x1, ← put4_get y y0 y1, e]
theorem root16_get (r : Rt) (hl : 0 ≤ r.log ∧ r.log < 4294967296) (hp : 0 ≤ r.pages ∧ r.pages < 4294967296) : root16 r = [69, 78, 71, 49] ++ put4 r.log ++ put4 r.pages ++ put4 r.epoch := by
  unfold root16
  rw [Int.emod_eq_of_lt hl.1 hl.2, Int.emod_eq_of_lt hp.1 hp.2]
theorem rootBytes_take (r : Rt) : (rootBytes r).take 16 = root16 r := by
  unfold rootBytes
  rw [List.append_assoc, List.take_append_of_le_length (by rw [root16_length]; omega), List.take_of_length_le (by rw [root16_length]; omega)]
theorem rootBytes_sum (r : Rt) : ((rootBytes r).drop 16).take 4 = put4 (fnv (root16 r)) := by
  unfold rootBytes
  rw [List.append_assoc, List.drop_append_of_le_length (by rw [root16_length]; omega), List.drop_of_length_le (by rw [root16_length]; omega), List.nil_append]
  rw [List.take_append_of_le_length (by simp [put4]), List.take_of_length_le (by simp [put4])]
theorem turned_none (r : Rt) (i : Nat) (hi : i < 20) (b : UInt8) (hne : (rootBytes r).set i b ≠ rootBytes r) : unroot ((rootBytes r).set i b) = none := by
  cases hu : unroot ((rootBytes r).set i b) with
  | none => rfl
  | some q =>
    exfalso
    obtain ⟨hq, _, _, _⟩ := unroot_some hu
    by_cases h16 : i < 16
    · have h1 : ((rootBytes r).set i b).take 16 = (root16 r).set i b := by rw [List.take_set, rootBytes_take]
      have h2 : (((rootBytes r).set i b).drop 16).take 4 = put4 (fnv (root16 r)) := by rw [List.drop_set_of_lt h16, rootBytes_sum]
      rw [hq, rootBytes_take] at h1
      rw [hq, rootBytes_sum] at h2
      have h3 := put4_inj (fnv_range _).1 (fnv_range _).2 (fnv_range _).1 (fnv_range _).2 h2
      rw [h1] at h3
      have h4 := fnv_turned (root16 r) i (by rw [root16_length]; exact h16) b h3
      apply hne
      have h5 : rootBytes r = (rootBytes r).take 16 ++ (rootBytes r).drop 16 := (List.take_append_drop 16 _).symm
      conv => lhs; rw [h5]
      rw [List.set_append, if_pos (by rw [rootBytes_take, root16_length]; exact h16), rootBytes_take, h4]
      conv => rhs; rw [h5, rootBytes_take]
    · have h1 : ((rootBytes r).set i b).take 16 = root16 r := by rw [List.take_set_of_le (by omega), rootBytes_take]
      rw [hq, rootBytes_take] at h1
      apply hne
      rw [hq]
      unfold rootBytes
      rw [h1]
end Go.Proofs.Ytdbhhnphpjdmbaa
