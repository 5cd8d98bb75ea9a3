/- Contracts of the law's helpers: Same for whole numbers, same, row. Conditions: fewer than a million tokens. -/
import Derived.Test.YtdbhhnphpjdmbaaNestRefB
import Derived.Test.YtdbhhnphpjdmbaaNestH
import Derived.Test.YtdbhhnphpjdmbaaBook
namespace Go.Proofs.Ytdbhhnphpjdmbaa
open Go.RowKit
set_option maxRecDepth 100000
set_option linter.unusedVariables false
set_option linter.unusedSimpArgs false
theorem same_int (w : World) (A B : Option Addr) (n c d : Nat) (xs : List Int) (hl : xs.length = n) (hn : n ≤ 4611686018427387904) (hA : Rd w A (icells xs)) (hB : Rd w B (icells xs)) :
    Calls Try.prog 40 #[.slice A n c, .slice B n d] w fun e w' => e = .returned (.bool true) ∧ Below w.heap.size w w' := by
  have HAA := Lib.hid hA
  have HBB := Lib.hid hB
  have HL := Lib.hid hl
  clear hA hB hl
  go_enter Try.func40, Try.ntmps40
  go_wp2
  go_loopw [5] (fun i wr => ∃ k : Nat, k ≤ n ∧ i = .int .i64 k ∧ Hid (Below w.heap.size w wr)) (fun i _ => n - (intOf i).toNat)
  case atStart => exact ⟨0, Nat.zero_le _, rfl, Below.refl _ _⟩
  case round =>
    obtain ⟨k, hk, rfl, HW⟩ := hrel
    by_cases hlt : k < n
    · obtain ⟨ad, rfl, c1⟩ := rd_int (HAA.out.below HW.out) k (by rw [HL.out]; exact hlt)
      obtain ⟨bd, rfl, c2⟩ := rd_int (HBB.out.below HW.out) k (by rw [HL.out]; exact hlt)
      generalize xs.getD k 0 = x at c1 c2
      go_wp2
      go_quiet (fail)
      go_wp2
      go_roundw
      case rel => exact ⟨k + 1, by omega, by go_num, below_drewN' HW.out _⟩
      case measure => simp [intOf]; omega
    · obtain rfl : n = k := by omega
      go_wp2
      go_ret
      exact ⟨rfl, HW.out⟩
theorem rd_nil (w : World) (A : Option Addr) : Rd w A [] := fun h => absurd rfl h
set_option maxHeartbeats 2000000 in
theorem law8_same (w : World) (A : Option Addr) (n c : Nat) (l : List Tk) (hl : l.length = n) (hn : n < 1000000) (hr : Rd w A (tcells l)) :
    Calls Try.prog 15 #[.slice A n c] w fun e w' => e = .returned (.bool true) ∧ Below w.heap.size w w' := by
  have h1 := Lib.hid (nest_Of w A n c l hl hn hr)
  have HR := Lib.hid hr
  have HL := Lib.hid hl
  clear hr hl
  go_enter Try.func15, Try.ntmps15
  go_wp2_with (fail)
  refine h1.out.mono ?_
  rintro e w1 ⟨hb1, hc1⟩
  have h2 := Lib.hid (ref_Nest w1 A n c l HL.out hn (HR.out.below hb1))
  have HB1 := Lib.hid hb1
  cases hno : nestOf (signs l) with
  | none =>
    have hno2 : nestRef (signs l) = none := by rw [← nest_same]; exact hno
    have he : e = .returned (.tuple #[.slice none 0 0, .int .i64 13]) := by
      rcases hc1 with ⟨_, h⟩ | ⟨p, _, _, h, _⟩
      · exact h
      · rw [hno] at h; cases h
    subst he
    have hno := Lib.hid hno
    have hno2 := Lib.hid hno2
    clear hc1 hb1
    go_wp2_with (fail)
    refine h2.out.mono ?_
    rintro e w2 ⟨hb2, hc2⟩
    have he : e = .returned (.tuple #[.slice none 0 0, .int .i64 (-1), .int .i64 13]) := by
      rcases hc2 with ⟨_, h⟩ | ⟨p, _, _, h, _⟩
      · exact h
      · rw [hno2.out] at h; cases h
    subst he
    have hb12 := HB1.out.trans (hb2.mono HB1.out.size)
    have HB2 := Lib.hid hb12
    have h3 := Lib.hid (same_int w2 none none 0 0 0 [] rfl (by decide) (rd_nil _ _) (rd_nil _ _))
    clear hc2 hb2 hb12
    go_wp2_with (fail)
    refine h3.out.mono ?_
    rintro e w3 ⟨rfl, hb3⟩
    have hb13 := HB2.out.trans (hb3.mono HB2.out.size)
    have HB3 := Lib.hid hb13
    have h4 : Hid (Calls Try.prog 22 #[.slice A n c] w3 fun e w' => e = .returned (.int .i64 (-1)) ∧ Below w3.heap.size w3 w') := by
      have := nest_Deep w3 A n c l HL.out hn (HR.out.below hb13)
      rw [hno.out] at this
      exact this
    clear hb3 hb13
    go_wp2_with (fail)
    refine h4.out.mono ?_
    rintro e w4 ⟨rfl, hb4⟩
    have HB4 := Lib.hid (HB3.out.trans (hb4.mono HB3.out.size))
    clear hb4
    go_wp2
    go_ret
    exact ⟨rfl, HB4.out⟩
  | some p =>
    have hno2 : nestRef (signs l) = some p := by rw [← nest_same]; exact hno
    have he : ∃ g c', p.1.length = n ∧ e = .returned (.tuple #[.slice (some ⟨g, 0, none⟩) n c', .int .i64 0]) ∧ w1.ownsRow w.heap.size 3 1 (.slice (some ⟨g, 0, none⟩) n c') n (icells p.1) := by
      rcases hc1 with ⟨h, _⟩ | ⟨p', g, c', h, h2, h3, h4⟩
      · rw [hno] at h; cases h
      · rw [hno] at h; cases h; exact ⟨g, c', h2, h3, h4⟩
    obtain ⟨g, c', hpl, rfl, ho1⟩ := he
    have hno := Lib.hid hno
    have hno2 := Lib.hid hno2
    have HO1 := Lib.hid ho1
    have HPL := Lib.hid hpl
    clear hc1 hb1 ho1 hpl
    go_wp2_with (fail)
    refine h2.out.mono ?_
    rintro e w2 ⟨hb2, hc2⟩
    have he : ∃ g c', e = .returned (.tuple #[.slice (some ⟨g, 0, none⟩) n c', .int .i64 (p.2 : Int), .int .i64 0]) ∧ w2.ownsRow w1.heap.size 3 1 (.slice (some ⟨g, 0, none⟩) n c') n (icells p.1) := by
      rcases hc2 with ⟨h, _⟩ | ⟨p', g, c', h, h3, h4⟩
      · rw [hno2.out] at h; cases h
      · rw [hno2.out] at h; cases h; exact ⟨g, c', h3, h4⟩
    obtain ⟨g2, c2, rfl, ho2⟩ := he
    have hb12 := HB1.out.trans (hb2.mono HB1.out.size)
    have HB2 := Lib.hid hb12
    have h3 := Lib.hid (same_int w2 (some ⟨g, 0, none⟩) (some ⟨g2, 0, none⟩) n c' c2 p.1 HPL.out (by omega) ((own_rd HO1.out).below hb2) (own_rd ho2))
    clear hc2 hb2 hb12 ho2
    go_wp2_with (fail)
    refine h3.out.mono ?_
    rintro e w3 ⟨rfl, hb3⟩
    have hb13 := HB2.out.trans (hb3.mono HB2.out.size)
    have HB3 := Lib.hid hb13
    have h4 : Hid (Calls Try.prog 22 #[.slice A n c] w3 fun e w' => e = .returned (.int .i64 (p.2 : Int)) ∧ Below w3.heap.size w3 w') := by
      have := nest_Deep w3 A n c l HL.out hn (HR.out.below hb13)
      rw [hno.out] at this
      exact this
    clear hb3 hb13
    go_wp2_with (fail)
    refine h4.out.mono ?_
    rintro e w4 ⟨rfl, hb4⟩
    have HB4 := Lib.hid (HB3.out.trans (hb4.mono HB3.out.size))
    clear hb4
    go_wp2
    go_ret
    exact ⟨rfl, HB4.out⟩
end Go.Proofs.Ytdbhhnphpjdmbaa
