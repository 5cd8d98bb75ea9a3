/- Contracts of the matcher: token, match, Of, Deep. -/
import Derived.Test.YtdbhhnphpjdmbaaNestD
namespace Go.Proofs.Ytdbhhnphpjdmbaa
open Go.RowKit
set_option maxRecDepth 100000
set_option linter.unusedVariables false
set_option linter.unusedSimpArgs false
theorem step_small {M M' : Ms} {i : Nat} {s : Int} (h : M.step i s = some M') (h0 : M.small) : M'.small := by
  obtain ⟨h1, h2⟩ := h0
  refine ⟨?_, step_16 h h2⟩
  unfold Ms.step at h
  repeat' split at h
  all_goals try cases h
  all_goals try (simp [Ms.begin]; omega)
  · unfold Ms.other at h
    split at h
    · cases h
    · rename_i ho
      split at h
      · cases h
      · simp only [Option.some.injEq] at h; subst h; rw [ho] at h1; exact h1
  · unfold Ms.endIf at h
    split at h
    · cases h
    · rename_i ho
      split at h
      · cases h
      · simp only [Option.some.injEq] at h; subst h; rw [ho, List.length_cons] at h1; exact Nat.le_trans (Nat.le_succ _) h1
  · unfold Ms.endLoop at h
    split at h
    · cases h
    · rename_i ho
      split at h
      · simp only [Option.some.injEq] at h; subst h; rw [ho, List.length_cons] at h1; exact Nat.le_trans (Nat.le_succ _) h1
      · cases h
  · unfold Ms.leave at h
    cases hl : leaveIn i M.opn with
    | none => rw [hl] at h; cases h
    | some o =>
      rw [hl] at h
      simp only [Option.map_some, Option.some.injEq] at h
      subst h
      show o.length ≤ M.deep
      rw [(leaveIn_wf i _ _ hl).1]
      exact h1
  · exact h1
/-- what the walk of a token asks of the matcher -/
structure MWf (M : Ms) (n : Nat) : Prop where
  len : M.to.length = n
  small : M.small
  frm : ∀ p ∈ M.opn, p.frm < n ∧ p.oth < n ∧ (∀ y ∈ p.lvs, y < n) ∧ p.lvs.length ≤ 1000000
set_option maxHeartbeats 2000000 in
theorem m_token {w : World} {B a : Nat} {M : Ms} {n : Nat} (h : MAt w B a M) (hw : MWf M n) (i : Nat) (hi : i < n) (hn : n < 1000000) (hB : B ≤ w.heap.size) (s : Int) :
    Calls Try.prog 80 #[.pointer (some ⟨a, 0, none⟩), .int .i64 (i : Int), .int .i32 s] w fun e w' => e = .returned (.bool (M.step i s).isSome) ∧ Below B w w' ∧ ∀ M', M.step i s = some M' → MAt w' B a M' := by
  have h16 : M.opn.length ≤ 16 := Nat.le_trans hw.small.1 hw.small.2
  have hd : M.deep ≤ 1000000 := by have := hw.small.2; omega
  have HW := Lib.hid hw
  have H := Lib.hid h
  have HWf := Lib.hid hw.frm
  have HL := Lib.hid hw.len
  clear hw h
  unfold Ms.step
  by_cases h63 : s = 63
  · have hb : (s == 63) = true := by simpa using h63
    rw [if_pos h63]
    clear h63
    by_cases hlt : M.opn.length < 16
    · rw [if_pos hlt]
      go_enter Try.func80, Try.ntmps80
      go_wp2_with (fail)
      refine (m_begin H.out h16 hB i false hd).mono ?_
      rintro e w1 ⟨rfl, hb1, hm1⟩
      rw [decide_eq_true hlt]
      have hb1 := Lib.hid hb1
      have hm1 := Lib.hid hm1
      have hlt := Lib.hid hlt
      go_wp2
      go_ret
      exact ⟨rfl, hb1.out, fun M' hM => by cases hM; exact hm1.out⟩
    · rw [if_neg hlt]
      go_enter Try.func80, Try.ntmps80
      go_wp2_with (fail)
      refine (m_begin H.out h16 hB i false hd).mono ?_
      rintro e w1 ⟨rfl, hb1, hm1⟩
      rw [decide_eq_false hlt]
      have hb1 := Lib.hid hb1
      have hm1 := Lib.hid hm1
      have hlt := Lib.hid hlt
      go_wp2
      go_ret
      exact ⟨rfl, hb1.out, fun M' hM => by cases hM⟩
  have b63 : (s == 63) = false := by simpa using h63
  rw [if_neg h63]
  clear h63
  by_cases h91 : s = 91
  · have hb : (s == 91) = true := by simpa using h91
    rw [if_pos h91]
    clear h91
    by_cases hlt : M.opn.length < 16
    · rw [if_pos hlt]
      go_enter Try.func80, Try.ntmps80
      go_wp2_with (fail)
      refine (m_begin H.out h16 hB i true hd).mono ?_
      rintro e w1 ⟨rfl, hb1, hm1⟩
      rw [decide_eq_true hlt]
      have hb1 := Lib.hid hb1
      have hm1 := Lib.hid hm1
      have hlt := Lib.hid hlt
      go_wp2
      go_ret
      exact ⟨rfl, hb1.out, fun M' hM => by cases hM; exact hm1.out⟩
    · rw [if_neg hlt]
      go_enter Try.func80, Try.ntmps80
      go_wp2_with (fail)
      refine (m_begin H.out h16 hB i true hd).mono ?_
      rintro e w1 ⟨rfl, hb1, hm1⟩
      rw [decide_eq_false hlt]
      have hb1 := Lib.hid hb1
      have hm1 := Lib.hid hm1
      have hlt := Lib.hid hlt
      go_wp2
      go_ret
      exact ⟨rfl, hb1.out, fun M' hM => by cases hM⟩
  have b91 : (s == 91) = false := by simpa using h91
  rw [if_neg h91]
  clear h91
  by_cases h58 : s = 58
  · have hb : (s == 58) = true := by simpa using h58
    rw [if_pos h58]
    clear h58
    go_enter Try.func80, Try.ntmps80
    go_wp2_with (fail)
    refine (m_other H.out i (by rw [HL.out]; exact hi) (by rw [HL.out]; omega) h16 (fun p hp => by rw [HL.out]; exact (HWf.out p hp).1) hB).mono ?_
    rintro e w1 ⟨rfl, hb1, hm1⟩
    have hb1 := Lib.hid hb1
    have hm1 := Lib.hid hm1
    go_wp2
    go_ret
    exact ⟨rfl, hb1.out, hm1.out⟩
  have b58 : (s == 58) = false := by simpa using h58
  rw [if_neg h58]
  clear h58
  by_cases h59 : s = 59
  · have hb : (s == 59) = true := by simpa using h59
    rw [if_pos h59]
    clear h59
    go_enter Try.func80, Try.ntmps80
    go_wp2_with (fail)
    refine (m_endIf H.out i (by rw [HL.out]; exact hi) (by rw [HL.out]; omega) h16 (fun p hp => by rw [HL.out]; exact ⟨(HWf.out p hp).1, (HWf.out p hp).2.1⟩) hB).mono ?_
    rintro e w1 ⟨rfl, hb1, hm1⟩
    have hb1 := Lib.hid hb1
    have hm1 := Lib.hid hm1
    go_wp2
    go_ret
    exact ⟨rfl, hb1.out, hm1.out⟩
  have b59 : (s == 59) = false := by simpa using h59
  rw [if_neg h59]
  clear h59
  by_cases h93 : s = 93
  · have hb : (s == 93) = true := by simpa using h93
    rw [if_pos h93]
    clear h93
    go_enter Try.func80, Try.ntmps80
    go_wp2_with (fail)
    refine (m_endLoop H.out i (by rw [HL.out]; exact hi) (by rw [HL.out]; omega) h16 (fun p hp => by rw [HL.out]; exact ⟨(HWf.out p hp).1, (HWf.out p hp).2.2.1⟩) (fun p hp => (HWf.out p hp).2.2.2) hB).mono ?_
    rintro e w1 ⟨rfl, hb1, hm1⟩
    have hb1 := Lib.hid hb1
    have hm1 := Lib.hid hm1
    go_wp2
    go_ret
    exact ⟨rfl, hb1.out, hm1.out⟩
  have b93 : (s == 93) = false := by simpa using h93
  rw [if_neg h93]
  clear h93
  by_cases h126 : s = 126
  · have hb : (s == 126) = true := by simpa using h126
    rw [if_pos h126]
    clear h126
    go_enter Try.func80, Try.ntmps80
    go_wp2_with (fail)
    refine (m_leave H.out i (by omega) h16 (fun p hp => (HWf.out p hp).2.2.2) hB).mono ?_
    rintro e w1 ⟨rfl, hb1, hm1⟩
    have hb1 := Lib.hid hb1
    have hm1 := Lib.hid hm1
    go_wp2
    go_ret
    exact ⟨rfl, hb1.out, hm1.out⟩
  have b126 : (s == 126) = false := by simpa using h126
  rw [if_neg h126]
  clear h126
  go_enter Try.func80, Try.ntmps80
  go_wp2
  go_ret
  refine ⟨rfl, Below.refl _ _, fun M' hM => ?_⟩
  cases hM
  exact H.out
end Go.Proofs.Ytdbhhnphpjdmbaa
