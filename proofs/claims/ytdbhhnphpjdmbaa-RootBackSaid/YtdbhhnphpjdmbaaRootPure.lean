/- Roots, in plain words: a root is read as itself; bytes without the mark are none; the best of two. -/
import Derived.Test.YtdbhhnphpjdmbaaLawRoot
namespace Go.Proofs.Ytdbhhnphpjdmbaa
open Go.RowKit
set_option maxRecDepth 100000
set_option linter.unusedVariables false
set_option linter.unusedSimpArgs false
theorem unroot_mark {b : List UInt8} (h : b.take 4 ≠ [69, 78, 71, 49]) : unroot b = none := by
  unfold unroot
  rw [if_neg]
  rintro ⟨_, _, _, e⟩
  rw [e, root16_take4] at h
  exact h rfl
theorem unroot_some {b : List UInt8} {r : Rt} (h : unroot b = some r) : b = rootBytes r ∧ r = unRt b ∧ r.log ≤ 2147483647 ∧ r.pages ≤ 2147483647 := by
  unfold unroot at h
  split at h
  · rename_i hc
    simp at h
    subst h
    exact ⟨hc.2.2.2, rfl, hc.2.1, hc.2.2.1⟩
  · simp at h
theorem get4_put {a c : List UInt8} {x : Int} (k : Nat) (hk : a.length = k) (h0 : 0 ≤ x) (h1 : x < 4294967296) : get4 (a ++ put4 x ++ c) (k : Int) = x := by
  rw [get4_in (by simp [put4]; omega), List.append_assoc, List.drop_append_of_le_length (by omega), List.drop_of_length_le (by omega), List.nil_append, List.take_append_of_le_length (by simp [put4]), List.take_of_length_le (by simp [put4])]
  exact put4_get x h0 h1
theorem unRt_bytes (r : Rt) (hl : 0 ≤ r.log ∧ r.log < 4294967296) (hp : 0 ≤ r.pages ∧ r.pages < 4294967296) (hr : r.ok) : unRt (rootBytes r) = r := by
  have e1 : r.log % 4294967296 = r.log := by omega
  have e2 : r.pages % 4294967296 = r.pages := by omega
  obtain ⟨s, hs⟩ : ∃ s, rootBytes r = [69, 78, 71, 49] ++ put4 r.log ++ put4 r.pages ++ put4 r.epoch ++ s := ⟨put4 (fnv (root16 r)) ++ List.replicate 44 0, by
    have h : rootBytes r = root16 r ++ (put4 (fnv (root16 r)) ++ List.replicate 44 0) := by unfold rootBytes; rw [List.append_assoc]
    have h' : root16 r = [69, 78, 71, 49] ++ put4 r.log ++ put4 r.pages ++ put4 r.epoch := by unfold root16; rw [e1, e2]
    rw [h]
    generalize (put4 (fnv (root16 r)) ++ List.replicate 44 0) = s'
    rw [h']⟩
  have h4 : get4 (rootBytes r) 4 = r.log := by
    rw [hs]
    have h := get4_put (a := [69, 78, 71, 49]) (c := put4 r.pages ++ put4 r.epoch ++ s) 4 rfl hl.1 hl.2
    simp only [List.append_assoc] at h ⊢
    exact h
  have h8 : get4 (rootBytes r) 8 = r.pages := by
    rw [hs]
    have h := get4_put (a := [69, 78, 71, 49] ++ put4 r.log) (c := put4 r.epoch ++ s) 8 rfl hp.1 hp.2
    simp only [List.append_assoc] at h ⊢
    exact h
  have h12 : get4 (rootBytes r) 12 = r.epoch := by
    rw [hs]
    have h := get4_put (a := [69, 78, 71, 49] ++ put4 r.log ++ put4 r.pages) (c := s) 12 rfl hr.1 hr.2
    simp only [List.append_assoc] at h ⊢
    exact h
  unfold unRt
  rw [h4, h8, h12]
theorem unroot_bytes (r : Rt) (hl : 0 ≤ r.log ∧ r.log ≤ 2147483647) (hp : 0 ≤ r.pages ∧ r.pages ≤ 2147483647) (hr : r.ok) : unroot (rootBytes r) = some r := by
  have h := unRt_bytes r (by omega) (by omega) hr
  unfold unRt at h
  unfold unroot
  rw [h, if_pos]
  have h4 : get4 (rootBytes r) 4 = r.log := congrArg Rt.log h
  have h8 : get4 (rootBytes r) 8 = r.pages := congrArg Rt.pages h
  exact ⟨rootBytes_length r, by rw [h4]; exact hl.2, by rw [h8]; exact hp.2, rfl⟩
theorem step_none (n : Int) (acc : Rt) {b : List UInt8} (h : unroot b = none) : bestStep n acc b = acc := by
  unfold bestStep
  rw [h]
  rfl
theorem step_some (n : Int) (acc : Rt) {b : List UInt8} {r : Rt} (h : unroot b = some r) : bestStep n acc b = if rightB r n && decide (acc.epoch < r.epoch) then r else acc := by
  unfold bestStep
  rw [h]
  rfl
end Go.Proofs.Ytdbhhnphpjdmbaa
