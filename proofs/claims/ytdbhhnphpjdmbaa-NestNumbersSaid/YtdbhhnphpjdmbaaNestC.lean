/- Contracts of the matcher's methods: endLoop. -/
import Derived.Test.YtdbhhnphpjdmbaaNestB
namespace Go.Proofs.Ytdbhhnphpjdmbaa
open Go.RowKit
set_option maxRecDepth 100000
set_option linter.unusedVariables false
set_option linter.unusedSimpArgs false
theorem setAll_take (t : List Int) (l : List Nat) (v : Int) (j : Nat) (k : Nat) (h : l[j]? = some k) : setAll t (l.take (j + 1)) v = (setAll t (l.take j) v).set k v := by
  rw [take_snoc' l j k h]
  unfold setAll
  rw [List.foldl_append]
  rfl
set_option maxHeartbeats 2000000 in
theorem m_endLoop {w : World} {B a : Nat} {M : Ms} (h : MAt w B a M) (i : Nat) (hi : i < M.to.length) (hm : M.to.length ≤ 1000000) (h16 : M.opn.length ≤ 16) (hw : ∀ p ∈ M.opn, p.frm < M.to.length ∧ ∀ y ∈ p.lvs, y < M.to.length) (hll : ∀ p ∈ M.opn, p.lvs.length ≤ 1000000) (hB : B ≤ w.heap.size) :
    Calls Try.prog 96 #[.pointer (some ⟨a, 0, none⟩), .int .i64 (i : Int)] w fun e w' => e = .returned (.bool (M.endLoop i).isSome) ∧ Below B w w' ∧ ∀ M', M.endLoop i = some M' → MAt w' B a M' := by
  obtain ⟨tb, tc, vo, vs, h⟩ := h.ma
  cases ho : M.opn with
  | nil =>
    have e : M.endLoop i = none := by unfold Ms.endLoop; rw [ho]
    rw [e]
    have H := Lib.hid h
    have HO := Lib.hid ho
    clear h ho e hw hll
    go_enter Try.func96, Try.ntmps96
    go_wp2_with (fail)
    refine (m_top_nil H.out HO.out).mono ?_
    rintro e w1 ⟨rfl, hq⟩
    have hq := Lib.hid hq
    go_wp2
    go_ret
    exact ⟨rfl, hq.out.below.mono (by exact hB), fun M' h => by cases h⟩
  | cons p q =>
    obtain ⟨g, c, rfl, hcap, hga, hgt⟩ := top_cap h ho
    obtain ⟨hwp, hwl⟩ := hw p (by rw [ho]; exact List.mem_cons_self ..)
    have hlp := hll p (by rw [ho]; exact List.mem_cons_self ..)
    rw [ho] at h16
    simp at h16
    have hl16 : q.length ≤ 16 := by omega
    have HT := Lib.hid (m_top_cons h ho hl16)
    have H := Lib.hid h
    have HO := Lib.hid ho
    have hE : Hid (M.endLoop i = if p.loop = true then some ⟨setAll (M.to.set i (p.frm : Int)) p.lvs ((i : Int) + 1), q, M.deep⟩ else none) := by show _ = _; unfold Ms.endLoop; rw [ho]
    have hga := Lib.hid hga
    have hgt := Lib.hid hgt
    have hta := Lib.hid (tb_ne h)
    have hsl := slice_to (P := Try.prog) 111 164 .i64 Try.underlying111 infoPart (some ⟨g, 0, none⟩) (q.length + 1) c q.length (by omega)
    obtain ⟨n, hn⟩ : ∃ n, n = M.to.length := ⟨_, rfl⟩
    rw [← hn] at hi hm hwp hwl
    have HN := Lib.hid hn
    have HWL := Lib.hid hwl
    clear h ho hw hn hcap hll hwl
    by_cases hlo : p.loop = true
    · rw [show (M.endLoop i) = some ⟨setAll (M.to.set i (p.frm : Int)) p.lvs ((i : Int) + 1), q, M.deep⟩ by rw [hE.out, if_pos hlo]]
      have hji : (i : Int) < (n : Int) := by omega
      go_enter Try.func96, Try.ntmps96
      go_wp2_with (fail)
      refine HT.out.mono ?_
      rintro e w1 ⟨rfl, hq⟩
      have H1 := H.out.qt hq
      obtain ⟨v, hv, hlv, k0, k1, k2, k3, b0, b1, f1, t0, tf⟩ := H1.tops HO.out
      have hlo' := Lib.hid hlo
      rw [hlo] at k0
      rw [← HN.out] at b0 t0
      replace t0 := t0 i hi
      replace tf := tf i
      obtain ⟨A, lc, rfl⟩ := own_form hlv
      have H2 := (H1.setTo i (by rw [← HN.out]; exact hi) (p.frm : Int)).drew
      have hb1 := Lib.hid (hq.below.mono hB)
      obtain ⟨W2, hW2⟩ : ∃ W2, W2 = (w1.setCell ⟨tb, i, none⟩ (.int .i64 (p.frm : Int))).drew := ⟨_, rfl⟩
      rw [← hW2] at H2
      obtain ⟨v', hv', hlv', e0, e1, e2, e3, f0, f1', f1'', s0, sf⟩ := H2.tops HO.out
      have hvv : v' = .slice A p.lvs.length lc := by
        rw [hv] at hv'
        injection hv' with e
        exact e.symm
      rw [hvv] at e3 hlv'
      have hb2 : Hid (Below B w W2) := by
        rw [hW2]
        exact below_drewN' (hb1.out.setCell (H.out.to.lt tb rfl).1 _) 1
      have H2 := Lib.hid H2
      have hv := Lib.hid hv
      clear hv' hvv v' hq H1 hlo hlv hlv' s0 sf f0 f1' f1'' e0 e1 e2
      have hlm : 0 ≤ (q.length : Int) := by omega
      obtain ⟨L, hL⟩ : ∃ L, L = p.lvs.length := ⟨_, rfl⟩
      rw [← hL] at e3 k3 hlp hv
      have HL := Lib.hid hL
      clear hL
      go_wp2
      go_region
      rw [← hW2]
      clear hW2 k0 k1 k2 k3 b0 b1 f1 t0 tf hb1
      go_wp2
      go_loopw [7, 34] (fun _ u wr => ∃ j : Nat, j ≤ L ∧ u = .int .i64 j ∧ Hid (MA wr B a tb tc (.slice (some ⟨g, 0, none⟩) (q.length + 1) c) vs ⟨setAll (M.to.set i (p.frm : Int)) (p.lvs.take j) ((i : Int) + 1), M.opn, M.deep⟩) ∧ Hid (Below B w wr)) (fun _ u _ => L - (intOf u).toNat)
      case atStart => exact ⟨0, Nat.zero_le _, rfl, H2.out, hb2.out⟩
      case round =>
        obtain ⟨j, hj, rfl, HM, HB⟩ := hrel
        clear e3
        by_cases hlt : j < L
        · have hy : ∃ y, p.lvs[j]? = some y := ⟨p.lvs[j]'(by rw [← HL.out]; exact hlt), List.getElem?_eq_getElem _⟩
          obtain ⟨y, hy⟩ := hy
          have hyn := HWL.out y (List.mem_of_getElem? hy)
          obtain ⟨v', hv', hlv', e0, e1, e2, e3, f0, f1', f1'', s0, sf⟩ := HM.out.tops HO.out
          have hvv : v' = .slice A L lc := by
            rw [hv.out] at hv'
            injection hv' with e
            exact e.symm
          rw [hvv, HL.out] at hlv'
          obtain ⟨lg, rfl, _, _⟩ := own_some hlv' (by rw [← HL.out]; omega)
          have hcy : wr.cell? ⟨lg, j, none⟩ = some (.int .i64 (y : Int)) := own_cell hlv' j _ (by rw [icells_get, List.getElem?_map, hy]; rfl)
          have hlen : (setAll (M.to.set i (p.frm : Int)) (p.lvs.take j) ((i : Int) + 1)).length = n := by rw [setAll_length, List.length_set, HN.out]
          have e0' : wr.cell? ⟨a, 0, none⟩ = some (.slice (some ⟨tb, 0, none⟩) n tc) := by
            rw [← hlen]
            exact f0
          have ty := s0 y (by show y < (setAll _ _ _).length; rw [hlen]; exact hyn)
          have tfy := sf y
          have hyi : (y : Int) < (n : Int) := by omega
          have H3 := HM.out.setTo y (by show y < (setAll _ _ _).length; rw [hlen]; exact hyn) ((i : Int) + 1)
          have e4 : (setAll (M.to.set i (p.frm : Int)) (p.lvs.take j) ((i : Int) + 1)).set y ((i : Int) + 1) = setAll (M.to.set i (p.frm : Int)) (p.lvs.take (j + 1)) ((i : Int) + 1) := (setAll_take _ _ _ j y hy).symm
          simp only at H3
          rw [e4] at H3
          have H3 := Lib.hid H3
          have HB3 := Lib.hid (HB.out.setCell (H.out.to.lt tb rfl).1 (p := ⟨tb, y, none⟩) (.int .i64 ((i : Int) + 1)))
          have hji2 : (j : Int) < (L : Int) := by omega
          clear hv' hvv v' hlv' e0 e1 e2 e3 f0 f1' f1'' s0 sf hy hlen e4
          go_wp2
          go_roundw
          case rel => exact ⟨j + 1, by omega, by go_num, H3.out, HB3.out⟩
          case measure => simp [intOf]; omega
        · obtain rfl : j = L := by omega
          have hall : p.lvs.take j = p.lvs := List.take_of_length_le (by rw [HL.out]; exact Nat.le_refl _)
          rw [hall] at HM
          obtain ⟨vs', H3⟩ := HM.out.pop HO.out
          have H3 := Lib.hid H3
          obtain ⟨v', hv', hlv', e0, e1, e2, e3, f0, f1', f1'', s0, sf⟩ := HM.out.tops HO.out
          clear hall hv' hlv' e0 e1 e2 e3 f0 s0 sf
          go_wp2
          go_region
          all_goals
            go_wp2
            go_ret
            refine ⟨rfl, below_drewN' (HB.out.setCell H.out.ge _) 1, fun M' hM' => ?_⟩
            cases hM'
            exact H3.out.drew.mat
    · rw [show (M.endLoop i) = none by rw [hE.out, if_neg hlo]]
      have hlo' : p.loop = false := by simpa using hlo
      have hlo := Lib.hid hlo
      go_enter Try.func96, Try.ntmps96
      go_wp2_with (fail)
      refine HT.out.mono ?_
      rintro e w1 ⟨rfl, hq⟩
      obtain ⟨v, _, _, k0, k1, k2, k3, b0, b1, f1, t0, tf⟩ := (H.out.qt hq).tops HO.out
      rw [hlo'] at k0
      have hq := Lib.hid hq
      clear t0 tf b0 b1 f1 k1 k2 k3 hlo'
      go_wp2
      go_ret
      exact ⟨rfl, hq.out.below.mono (by exact hB), fun M' h => by cases h⟩
end Go.Proofs.Ytdbhhnphpjdmbaa
