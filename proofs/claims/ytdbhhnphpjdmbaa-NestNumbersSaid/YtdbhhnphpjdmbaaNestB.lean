/- Contracts of the matcher's methods: endIf, endLoop. -/
import Derived.Test.YtdbhhnphpjdmbaaNest
namespace Go.Proofs.Ytdbhhnphpjdmbaa
open Go.RowKit
set_option maxRecDepth 100000
set_option linter.unusedVariables false
set_option linter.unusedSimpArgs false
/-- what top's callers read, in a world that top left -/
structure Top (w1 : World) (a tb tc g n : Nat) (q : Nat) (vo : Value) (p : Pt) (v : Value) (x : Nat → Int) : Prop where
  k0 : w1.cell? ⟨g, q * 4, none⟩ = some (.bool p.loop)
  k1 : w1.cell? ⟨g, q * 4 + 1, none⟩ = some (.int .i64 (p.frm : Int))
  k2 : w1.cell? ⟨g, q * 4 + 2, none⟩ = some (.int .i64 (p.oth : Int))
  k3 : w1.cell? ⟨g, q * 4 + 3, none⟩ = some v
  b0 : w1.cell? ⟨a, 0, none⟩ = some (.slice (some ⟨tb, 0, none⟩) n tc)
  b1 : w1.cell? ⟨a, 1, none⟩ = some vo
  f1 : w1.frozen? ⟨a, 1, none⟩ = false
  t0 : ∀ k, k < n → w1.cell? ⟨tb, k, none⟩ = some (.int .i64 (x k))
  tf : ∀ k, w1.frozen? ⟨tb, k, none⟩ = false
theorem MA.tops {w : World} {B a tb tc g c : Nat} {vs : List Value} {M : Ms} {p : Pt} {q : List Pt} (h : MA w B a tb tc (.slice (some ⟨g, 0, none⟩) (q.length + 1) c) vs M) (ho : M.opn = p :: q) : ∃ v, vs[q.length]? = some v ∧ w.ownsRow B 3 1 v p.lvs.length (icells (p.lvs.map Int.ofNat)) ∧ Top w a tb tc g M.to.length q.length (.slice (some ⟨g, 0, none⟩) (q.length + 1) c) p v (fun k => M.to.getD k 0) := by
  obtain ⟨g', c', vs0, v, e1, hcap, rfl, hl0, k0, k1, k2, k3, hfr, hlv, hga, hgt⟩ := h.top ho
  cases e1
  have b0 := blk_cell h.blk 0
  have b1 := blk_cell h.blk 1
  simp at b0 b1
  refine ⟨v, by rw [List.getElem?_append_right (by omega)]; simp [hl0], hlv, k0, k1, k2, k3, b0, b1, blk_free h.blk 1, fun k hk => own_cell h.to k _ ?_, own_free h.to⟩
  rw [icells_get, List.getElem?_eq_getElem hk, List.getD_eq_getElem?_getD, List.getElem?_eq_getElem hk]
  rfl
theorem top_cap {w : World} {B a tb tc : Nat} {vo : Value} {vs : List Value} {M : Ms} {p : Pt} {q : List Pt} (h : MA w B a tb tc vo vs M) (ho : M.opn = p :: q) : ∃ g c, vo = .slice (some ⟨g, 0, none⟩) (q.length + 1) c ∧ q.length + 1 ≤ c ∧ g ≠ a ∧ g ≠ tb := by
  obtain ⟨g', c', vs0, v, e1, hcap, rfl, hl0, k0, k1, k2, k3, hfr, hlv, hga, hgt⟩ := h.top ho
  exact ⟨g', c', e1, hcap, hga, hgt⟩
theorem tb_ne {w : World} {B a tb tc : Nat} {vo : Value} {vs : List Value} {M : Ms} (h : MA w B a tb tc vo vs M) : a ≠ tb := by
  obtain ⟨cs, hcs⟩ := own_blk h.to tb rfl
  exact fun e => absurd (blk_type (e ▸ h.blk) hcs) (by decide)
set_option maxHeartbeats 2000000 in
theorem m_endIf {w : World} {B a : Nat} {M : Ms} (h : MAt w B a M) (i : Nat) (hi : i < M.to.length) (hm : M.to.length ≤ 1000000) (h16 : M.opn.length ≤ 16) (hw : ∀ p ∈ M.opn, p.frm < M.to.length ∧ p.oth < M.to.length) (hB : B ≤ w.heap.size) :
    Calls Try.prog 95 #[.pointer (some ⟨a, 0, none⟩), .int .i64 (i : Int)] w fun e w' => e = .returned (.bool (M.endIf i).isSome) ∧ Below B w w' ∧ ∀ M', M.endIf i = some M' → MAt w' B a M' := by
  obtain ⟨tb, tc, vo, vs, h⟩ := h.ma
  cases ho : M.opn with
  | nil =>
    have e : M.endIf i = none := by unfold Ms.endIf; rw [ho]
    rw [e]
    have H := Lib.hid h
    have HO := Lib.hid ho
    clear h ho e hw
    go_enter Try.func95, Try.ntmps95
    go_wp2_with (fail)
    refine (m_top_nil H.out HO.out).mono ?_
    rintro e w1 ⟨rfl, hq⟩
    have hq := Lib.hid hq
    go_wp2
    go_ret
    exact ⟨rfl, hq.out.below.mono (by exact hB), fun M' h => by cases h⟩
  | cons p q =>
    obtain ⟨g, c, rfl, hcap, hga, hgt⟩ := top_cap h ho
    have hwp := hw p (by rw [ho]; exact List.mem_cons_self ..)
    rw [ho] at h16
    simp at h16
    have hl16 : q.length ≤ 16 := by omega
    have HT := Lib.hid (m_top_cons h ho hl16)
    have H := Lib.hid h
    have HO := Lib.hid ho
    have hE : Hid (M.endIf i = if p.loop = true then none else some ⟨M.to.set (if p.oth > 0 then p.oth else p.frm) (i : Int), q, M.deep⟩) := by show _ = _; unfold Ms.endIf; rw [ho]
    have hga := Lib.hid hga
    have hgt := Lib.hid hgt
    have hta := Lib.hid (tb_ne h)
    have hsl := slice_to (P := Try.prog) 111 164 .i64 Try.underlying111 infoPart (some ⟨g, 0, none⟩) (q.length + 1) c q.length (by omega)
    obtain ⟨n, hn⟩ : ∃ n, n = M.to.length := ⟨_, rfl⟩
    have hnn := hn
    rw [← hn] at hi hm hwp
    have HN := Lib.hid hn
    clear h ho hw hn hcap hnn
    by_cases hlo : p.loop = true
    · rw [show (M.endIf i) = none by rw [hE.out, if_pos hlo]]
      go_enter Try.func95, Try.ntmps95
      go_wp2_with (fail)
      refine HT.out.mono ?_
      rintro e w1 ⟨rfl, hq⟩
      obtain ⟨v, _, _, k0, k1, k2, k3, b0, b1, f1, t0, tf⟩ := (H.out.qt hq).tops HO.out
      rw [hlo] at k0
      have hq := Lib.hid hq
      have hlo := Lib.hid hlo
      clear t0 tf b0 b1 f1 k1 k2 k3
      go_wp2
      go_ret
      exact ⟨rfl, hq.out.below.mono (by exact hB), fun M' h => by cases h⟩
    · have hlo' : p.loop = false := by simpa using hlo
      have hlo := Lib.hid hlo
      by_cases hoth : p.oth > 0
      · rw [show (M.endIf i) = some ⟨M.to.set p.oth (i : Int), q, M.deep⟩ by rw [hE.out, if_neg hlo.out, if_pos hoth]]
        have hj : p.oth < n := hwp.2
        have hji : (p.oth : Int) < (n : Int) := by omega
        go_enter Try.func95, Try.ntmps95
        go_wp2_with (fail)
        refine HT.out.mono ?_
        rintro e w1 ⟨rfl, hq⟩
        have H1 := H.out.qt hq
        obtain ⟨v, _, _, k0, k1, k2, k3, b0, b1, f1, t0, tf⟩ := H1.tops HO.out
        rw [hlo'] at k0
        rw [← HN.out] at b0 t0
        replace t0 := t0 p.oth hj
        replace tf := tf p.oth
        have H2 := (H1.setTo p.oth (by rw [← HN.out]; exact hj) (i : Int)).drew
        obtain ⟨vs', H3⟩ := H2.pop HO.out
        replace H3 := Lib.hid H3
        have hb1 := Lib.hid (hq.below.mono hB)
        obtain ⟨W2, hW2⟩ : ∃ W2, W2 = (w1.setCell ⟨tb, p.oth, none⟩ (.int .i64 (i : Int))).drew := ⟨_, rfl⟩
        have d1 : W2.cell? ⟨a, 1, none⟩ = some (.slice (some ⟨g, 0, none⟩) (q.length + 1) c) := by
          rw [hW2]
          show (w1.setCell ⟨tb, p.oth, none⟩ (.int .i64 (i : Int))).cell? _ = _
          rw [World.cell?_of_block (Below.heap_setCell _ _ _ _ (show a ≠ tb from hta.out))]
          exact b1
        have df : W2.frozen? ⟨a, 1, none⟩ = false := by
          rw [hW2]
          show (w1.setCell ⟨tb, p.oth, none⟩ (.int .i64 (i : Int))).frozen? _ = _
          rw [World.frozen?_setCell]
          exact f1
        have hb2 : Hid (Below B w W2) := by
          rw [hW2]
          exact below_drewN' (hb1.out.setCell (H.out.to.lt tb rfl).1 _) 1
        clear k3 hq H1 H2 hlo'
        have hlm : 0 ≤ (q.length : Int) := by omega
        go_wp2
        go_region
        rw [← hW2] at H3 ⊢
        clear hW2 k0 k1 k2 b0 b1 f1 t0 tf hb1
        go_wp2
        go_region
        all_goals
          go_wp2
          go_ret
          refine ⟨rfl, below_drewN' (hb2.out.setCell H.out.ge _) 1, fun M' hM' => ?_⟩
          cases hM'
          exact H3.out.drew.mat
      · rw [show (M.endIf i) = some ⟨M.to.set p.frm (i : Int), q, M.deep⟩ by rw [hE.out, if_neg hlo.out, if_neg hoth]]
        have hj : p.frm < n := hwp.1
        have hji : (p.frm : Int) < (n : Int) := by omega
        go_enter Try.func95, Try.ntmps95
        go_wp2_with (fail)
        refine HT.out.mono ?_
        rintro e w1 ⟨rfl, hq⟩
        have H1 := H.out.qt hq
        obtain ⟨v, _, _, k0, k1, k2, k3, b0, b1, f1, t0, tf⟩ := H1.tops HO.out
        rw [hlo'] at k0
        rw [← HN.out] at b0 t0
        replace t0 := t0 p.frm hj
        replace tf := tf p.frm
        have H2 := (H1.setTo p.frm (by rw [← HN.out]; exact hj) (i : Int)).drew
        obtain ⟨vs', H3⟩ := H2.pop HO.out
        replace H3 := Lib.hid H3
        have hb1 := Lib.hid (hq.below.mono hB)
        obtain ⟨W2, hW2⟩ : ∃ W2, W2 = (w1.setCell ⟨tb, p.frm, none⟩ (.int .i64 (i : Int))).drew := ⟨_, rfl⟩
        have d1 : W2.cell? ⟨a, 1, none⟩ = some (.slice (some ⟨g, 0, none⟩) (q.length + 1) c) := by
          rw [hW2]
          show (w1.setCell ⟨tb, p.frm, none⟩ (.int .i64 (i : Int))).cell? _ = _
          rw [World.cell?_of_block (Below.heap_setCell _ _ _ _ (show a ≠ tb from hta.out))]
          exact b1
        have df : W2.frozen? ⟨a, 1, none⟩ = false := by
          rw [hW2]
          show (w1.setCell ⟨tb, p.frm, none⟩ (.int .i64 (i : Int))).frozen? _ = _
          rw [World.frozen?_setCell]
          exact f1
        have hb2 : Hid (Below B w W2) := by
          rw [hW2]
          exact below_drewN' (hb1.out.setCell (H.out.to.lt tb rfl).1 _) 1
        clear k3 hq H1 H2 hlo'
        have hlm : 0 ≤ (q.length : Int) := by omega
        have hz : p.oth = 0 := by omega
        rw [hz] at k2
        clear hz
        go_wp2
        go_region
        rw [← hW2] at H3 ⊢
        clear hW2 k0 k1 k2 b0 b1 f1 t0 tf hb1
        go_wp2
        go_region
        all_goals
          go_wp2
          go_ret
          refine ⟨rfl, below_drewN' (hb2.out.setCell H.out.ge _) 1, fun M' hM' => ?_⟩
          cases hM'
          exact H3.out.drew.mat
end Go.Proofs.Ytdbhhnphpjdmbaa
