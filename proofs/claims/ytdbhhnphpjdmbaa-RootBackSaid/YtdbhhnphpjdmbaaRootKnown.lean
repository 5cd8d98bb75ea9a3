/- Root's known runs answer true. -/
import Derived.Test.YtdbhhnphpjdmbaaRootPure
namespace Go.Proofs.Ytdbhhnphpjdmbaa
open Go.RowKit
set_option maxRecDepth 100000
set_option linter.unusedVariables false
set_option linter.unusedSimpArgs false
theorem zero_row : sectorOf (zeros 576) 0 = zeros 64 ∧ sectorOf (zeros 576) 1 = zeros 64 := by
  constructor <;> (unfold sectorOf zeros; simp)
theorem zeros_none : unroot (zeros 64) = none := unroot_mark (by unfold zeros; simp)
theorem known_best0 : bestRt (9 : Nat) [(Dk.mk (zeros 576) []).row 0, (Dk.mk (zeros 576) []).row 1] = Rt.zero := by
  have hl : (Dk.mk (zeros 576) []).len = 9 := by unfold Dk.len zeros; simp
  have h0 : (Dk.mk (zeros 576) []).row 0 = zeros 64 := by
    unfold Dk.row
    rw [if_pos (by rw [Dk.there_iff, hl]; decide)]
    exact zero_row.1
  have h1 : (Dk.mk (zeros 576) []).row 1 = zeros 64 := by
    unfold Dk.row
    rw [if_pos (by rw [Dk.there_iff, hl]; decide)]
    exact zero_row.2
  rw [h0, h1]
  simp only [bestRt, List.foldl_cons, List.foldl_nil, step_none _ _ zeros_none]
theorem known_best1 : bestRt (9 : Nat) [((Dk.mk (zeros 576) []).write 1 (rootBytes ⟨3, 4, 5⟩)).row 0, ((Dk.mk (zeros 576) []).write 1 (rootBytes ⟨3, 4, 5⟩)).row 1] = ⟨3, 4, 5⟩ := by
  have hl : (Dk.mk (zeros 576) []).len = 9 := by unfold Dk.len zeros; simp
  have hw : (Dk.mk (zeros 576) []).write 1 (rootBytes ⟨3, 4, 5⟩) = ⟨zeros 576, [(1, rootBytes ⟨3, 4, 5⟩)]⟩ := by
    unfold Dk.write
    rw [if_pos ⟨by rw [Dk.there_iff, hl]; decide, rootBytes_length _⟩]
    rfl
  have hl2 : (Dk.mk (zeros 576) [(1, rootBytes ⟨3, 4, 5⟩)]).len = 9 := hl
  have h0 : (Dk.mk (zeros 576) [(1, rootBytes ⟨3, 4, 5⟩)]).row 0 = zeros 64 := by
    unfold Dk.row
    rw [if_pos (by rw [Dk.there_iff, hl2]; decide)]
    exact zero_row.1
  have h1 : (Dk.mk (zeros 576) [(1, rootBytes ⟨3, 4, 5⟩)]).row 1 = rootBytes ⟨3, 4, 5⟩ := by
    unfold Dk.row
    rw [if_pos (by rw [Dk.there_iff, hl2]; decide)]
    rfl
  rw [hw, h0, h1]
  have hu := unroot_bytes ⟨3, 4, 5⟩ (by decide) (by decide) ⟨by decide, by decide⟩
  simp only [bestRt, List.foldl_cons, List.foldl_nil, step_none _ _ zeros_none, step_some _ _ hu]
  rfl
set_option maxHeartbeats 4000000 in
theorem law_known (w : World) :
    Calls Try.prog 27 #[] w fun e w' => e = .returned (.bool true) ∧ Below w.heap.size w w' := by
  have hok : (⟨3, 4, 5⟩ : Rt).ok := ⟨by decide, by decide⟩
  have hok := Lib.hid hok
  have hu : Hid (unroot (rootBytes ⟨3, 4, 5⟩) = some ⟨3, 4, 5⟩) := unroot_bytes ⟨3, 4, 5⟩ (by decide) (by decide) hok.out
  go_enter Try.func27, Try.ntmps27
  go_wp2_with (fail)
  refine (disk_New w 9 (by decide) (by decide)).mono ?_
  rintro e w1 ⟨a, S, rfl, hd, hS, hb1⟩
  have hd1 : Hid (DkAt w1 S a ⟨zeros 576, []⟩) := hd
  have hl1 : Hid ((Dk.mk (zeros 576) []).len = 9) := by show _ = _; unfold Dk.len zeros; simp
  have B1 := Lib.hid hb1
  have hS := Lib.hid hS
  have hs1 := B1.out.size
  clear hd hb1
  go_wp2_with (fail)
  refine (root_Best hd1.out).mono ?_
  rintro e w2 ⟨rfl, hb2⟩
  rw [hl1.out, known_best0]
  have B2 := below_more B1 hb2
  have hs2 := B2.out.size
  have hd2 := Lib.hid (hd1.out.below hb2)
  clear hb2
  have hx : decide (0 < Rt.zero.epoch) = false := rfl
  rw [hx]
  unfold Rt.val Rt.zero
  clear hx
  -- the three boxes that follow
  obtain ⟨W3, hW3⟩ : ∃ W3, W3 = (w2.alloc (.cells #[.int .i64 0, .int .i64 0, .int .u32 0] 65)).alloc (.cells #[.int .i64 3, .int .i64 4, .int .u32 5] 65) := ⟨_, rfl⟩
  have hz3 : W3.heap.size = w2.heap.size + 1 + 1 := by rw [hW3, World.size_alloc, World.size_alloc]
  have hr3 : Hid (W3.heap[w2.heap.size + 1]? = some (.cells (Rt.cells ⟨3, 4, 5⟩) 65)) := by
    have h := heap_alloc_new (w2.alloc (.cells #[.int .i64 0, .int .i64 0, .int .u32 0] 65)) (.cells #[.int .i64 3, .int .i64 4, .int .u32 5] 65)
    rw [World.size_alloc] at h
    rw [hW3]
    exact h
  have B3 : Hid (Below w.heap.size w W3) := by
    rw [hW3]
    exact (B2.out.alloc hs2 _).alloc (by rw [World.size_alloc]; omega) _
  have hd3 : Hid (DkAt W3 S a ⟨zeros 576, []⟩) := by
    rw [hW3]
    exact hd2.out.below (((Below.refl _ _).alloc (Nat.le_refl _) _).alloc (by rw [World.size_alloc]; omega) _)
  go_wp2_with (fail)
  rw [← hW3]
  clear hW3
  refine (root_Bytes ⟨3, 4, 5⟩ hok.out W3).mono ?_
  rintro e w4 ⟨A4, c4, rfl, ho4, hb4⟩
  have B4 := below_more B3 hb4
  have hd4 := Lib.hid (hd3.out.below hb4)
  have hr4 : Hid (w4.heap[w2.heap.size + 1]? = some (.cells (Rt.cells ⟨3, 4, 5⟩) 65)) := (hb4.block _ (by omega)).trans hr3.out
  have ho4 := Lib.hid ho4
  have hz4 : w2.heap.size + 1 < w4.heap.size := by have := hb4.size; omega
  clear hb4
  go_wp2_with (fail)
  refine (root_Read w4 A4 64 c4 _ (rootBytes_length ⟨3, 4, 5⟩) (own_capA ho4.out) (by decide) (own_rd ho4.out)).mono ?_
  rintro e w5 ⟨rfl, hb5⟩
  rw [hu.out]
  have B5 := below_more B4 hb5
  have hs5 := B5.out.size
  have hd5 := Lib.hid (hd4.out.below hb5)
  have hr5 : Hid (w5.heap[w2.heap.size + 1]? = some (.cells (Rt.cells ⟨3, 4, 5⟩) 65)) := (hb5.block _ hz4).trans hr4.out
  have hz5 : w2.heap.size + 1 < w5.heap.size := by have := hb5.size; omega
  clear hb5
  unfold Rt.opt Rt.val
  simp only [Option.getD_some, Option.isSome_some]
  obtain ⟨W6, hW6⟩ : ∃ W6, W6 = w5.alloc (.cells #[.int .i64 3, .int .i64 4, .int .u32 5] 65) := ⟨_, rfl⟩
  have hz6 : W6.heap.size = w5.heap.size + 1 := by rw [hW6, World.size_alloc]
  have hr6 : Hid (W6.heap[w2.heap.size + 1]? = some (.cells (Rt.cells ⟨3, 4, 5⟩) 65)) := by rw [hW6]; exact blk_alloc hr5.out _
  have hq6 : Hid (W6.heap[w5.heap.size]? = some (.cells (Rt.cells ⟨3, 4, 5⟩) 65)) := by rw [hW6]; exact heap_alloc_new w5 _
  have B6 : Hid (Below w.heap.size w W6) := by rw [hW6]; exact B5.out.alloc hs5 _
  have hd6 : Hid (DkAt W6 S a ⟨zeros 576, []⟩) := by rw [hW6]; exact hd5.out.below ((Below.refl _ _).alloc (Nat.le_refl _) _)
  obtain ⟨a0, a1, a2, af0, af1, af2⟩ := rt_block hr5.out
  go_wp2_with (fail)
  rw [← hW6]
  clear hW6 a0 a1 a2 af0 af1 af2
  refine (ref_Root ⟨3, 4, 5⟩ hok.out W6).mono ?_
  rintro e w7 ⟨A7, c7, rfl, ho7, hb7⟩
  have B7 := below_more B6 hb7
  have hd7 := Lib.hid (hd6.out.below hb7)
  have hr7 : Hid (w7.heap[w2.heap.size + 1]? = some (.cells (Rt.cells ⟨3, 4, 5⟩) 65)) := (hb7.block _ (by omega)).trans hr6.out
  have hq7 : Hid (w7.heap[w5.heap.size]? = some (.cells (Rt.cells ⟨3, 4, 5⟩) 65)) := (hb7.block _ (by omega)).trans hq6.out
  have ho7 := Lib.hid ho7
  have hz7 : w5.heap.size < w7.heap.size := by have := hb7.size; omega
  clear hb7
  go_wp2_with (fail)
  refine (disk_Write hd7.out 1 A7 64 c7 (rootBytes ⟨3, 4, 5⟩) (rootBytes_length _) (by decide) (own_rd ho7.out)).mono ?_
  rintro e w8 ⟨rfl, S8, hd8, hS8, hk8⟩
  have hth : (Dk.mk (zeros 576) []).there 1 = true := by rw [Dk.there_iff, hl1.out]; decide
  rw [hth]
  clear hth
  have hne5 : ¬ S w5.heap.size := fun hs => by have := hd5.out.lt _ hs; omega
  have hne2 : ¬ S (w2.heap.size + 1) := fun hs => by have := hd2.out.lt _ hs; omega
  have B8 : Hid (Below w.heap.size w w8) := B7.out.trans (hk8.below B7.out.size hS.out)
  have hr8 : Hid (w8.heap[w2.heap.size + 1]? = some (.cells (Rt.cells ⟨3, 4, 5⟩) 65)) := (hk8.block _ (by omega) hne2).trans hr7.out
  have hq8 : Hid (w8.heap[w5.heap.size]? = some (.cells (Rt.cells ⟨3, 4, 5⟩) 65)) := (hk8.block _ (by omega) hne5).trans hq7.out
  have hd8 := Lib.hid hd8
  have hz8 : w5.heap.size < w8.heap.size := by have := hk8.size; omega
  have hl8 : Hid (((Dk.mk (zeros 576) []).write 1 (rootBytes ⟨3, 4, 5⟩)).len = 9) := by
    show _ = _
    rw [← hl1.out]
    unfold Dk.write
    split <;> rfl
  clear hk8 hS8 hne5 hne2
  go_wp2_with (fail)
  refine (root_Best hd8.out).mono ?_
  rintro e w9 ⟨rfl, hb9⟩
  rw [hl8.out, known_best1]
  have B9 := below_more B8 hb9
  have hs9 := B9.out.size
  have hr9 : Hid (w9.heap[w2.heap.size + 1]? = some (.cells (Rt.cells ⟨3, 4, 5⟩) 65)) := (hb9.block _ (by omega)).trans hr8.out
  have hq9 : Hid (w9.heap[w5.heap.size]? = some (.cells (Rt.cells ⟨3, 4, 5⟩) 65)) := (hb9.block _ (by omega)).trans hq8.out
  have hz9 : w5.heap.size < w9.heap.size := by have := hb9.size; omega
  clear hb9
  unfold Rt.val
  have hx : decide (0 < (⟨3, 4, 5⟩ : Rt).epoch) = true := rfl
  rw [hx]
  clear hx
  go_wp2_with (fail)
  refine (root_Best_nil _).mono ?_
  rintro e w10 ⟨rfl, hb10⟩
  have hr10 : Hid (w10.heap[w2.heap.size + 1]? = some (.cells (Rt.cells ⟨3, 4, 5⟩) 65)) := (hb10.block _ (by rw [World.size_alloc]; omega)).trans (blk_alloc hr9.out _)
  have hq10 : Hid (w10.heap[w5.heap.size]? = some (.cells (Rt.cells ⟨3, 4, 5⟩) 65)) := (hb10.block _ (by rw [World.size_alloc]; omega)).trans (blk_alloc hq9.out _)
  have hp10 : Hid (w10.heap[w9.heap.size]? = some (.cells (Rt.cells ⟨3, 4, 5⟩) 65)) := (hb10.block _ (by rw [World.size_alloc]; omega)).trans (heap_alloc_new w9 _)
  have hz10 : w9.heap.size < w10.heap.size := by have := hb10.size; rw [World.size_alloc] at this; omega
  have B10 : Hid (Below w.heap.size w w10) := below_trans' (B9.out.alloc hs9 _) (by rw [World.size_alloc]; omega) hb10
  have hs10 := B10.out.size
  clear hb10
  unfold Rt.val Rt.zero
  obtain ⟨a0, a1, a2, af0, af1, af2⟩ := rt_block hr10.out
  obtain ⟨b0, b1, b2, bf0, bf1, bf2⟩ := rt_block hq10.out
  obtain ⟨p0, p1, p2, pf0, pf1, pf2⟩ := rt_block hp10.out
  have hz10a : w2.heap.size + 1 < w10.heap.size := by omega
  have hz10b : w5.heap.size < w10.heap.size := by omega
  go_wp2_with (fail)
  refine (root_Home ⟨3, 4, 5⟩ 0 _).mono ?_
  rintro e w11 ⟨rfl, o11, h11⟩
  have hx : homeOf ⟨3, 4, 5⟩ 0 = 5 := by first | rfl | decide | kernel_rfl
  rw [hx]
  clear hx
  have hr11 : Hid (w11.heap[w2.heap.size + 1]? = some (.cells (Rt.cells ⟨3, 4, 5⟩) 65)) := by rw [h11]; exact blk_alloc (blk_alloc hr10.out _) _
  have hs11 : w2.heap.size + 1 < w11.heap.size := by rw [h11, World.size_alloc, World.size_alloc]; omega
  have B11 : Hid (Below w.heap.size w w11) := by rw [h11]; exact (B10.out.alloc hs10 _).alloc (by rw [World.size_alloc]; omega) _
  clear h11 a0 a1 a2 af0 af1 af2
  obtain ⟨a0, a1, a2, af0, af1, af2⟩ := rt_block hr11.out
  clear b0 b1 b2 bf0 bf1 bf2 p0 p1 p2 pf0 pf1 pf2
  go_wp2_with (fail)
  refine (root_Home ⟨3, 4, 5⟩ 4 _).mono ?_
  rintro e w12 ⟨rfl, o12, h12⟩
  have hx : homeOf ⟨3, 4, 5⟩ 4 = -1 := by first | rfl | decide | kernel_rfl
  rw [hx]
  clear hx
  have hr12 : Hid (w12.heap[w2.heap.size + 1]? = some (.cells (Rt.cells ⟨3, 4, 5⟩) 65)) := by rw [h12]; exact blk_alloc hr11.out _
  have hs12 : w2.heap.size + 1 < w12.heap.size := by rw [h12, World.size_alloc]; omega
  have B12 : Hid (Below w.heap.size w w12) := by rw [h12]; exact B11.out.alloc B11.out.size _
  clear h12 a0 a1 a2 af0 af1 af2
  obtain ⟨a0, a1, a2, af0, af1, af2⟩ := rt_block hr12.out
  go_wp2_with (fail)
  refine (root_Right ⟨3, 4, 5⟩ 9 _ (by decide)).mono ?_
  rintro e w13 ⟨rfl, o13, h13⟩
  have hx : rightB ⟨3, 4, 5⟩ 9 = true := by first | rfl | decide | kernel_rfl
  rw [hx]
  clear hx
  have hr13 : Hid (w13.heap[w2.heap.size + 1]? = some (.cells (Rt.cells ⟨3, 4, 5⟩) 65)) := by rw [h13]; exact blk_alloc hr12.out _
  have hs13 : w2.heap.size + 1 < w13.heap.size := by rw [h13, World.size_alloc]; omega
  have B13 : Hid (Below w.heap.size w w13) := by rw [h13]; exact B12.out.alloc B12.out.size _
  clear h13 a0 a1 a2 af0 af1 af2
  obtain ⟨a0, a1, a2, af0, af1, af2⟩ := rt_block hr13.out
  go_wp2_with (fail)
  refine (root_Right ⟨3, 4, 5⟩ 8 _ (by decide)).mono ?_
  rintro e w14 ⟨rfl, o14, h14⟩
  have hx : rightB ⟨3, 4, 5⟩ 8 = false := by first | rfl | decide | kernel_rfl
  rw [hx]
  clear hx
  have hr14 : Hid (w14.heap[w2.heap.size + 1]? = some (.cells (Rt.cells ⟨3, 4, 5⟩) 65)) := by rw [h14]; exact blk_alloc hr13.out _
  have hs14 : w2.heap.size + 1 < w14.heap.size := by rw [h14, World.size_alloc]; omega
  have B14 : Hid (Below w.heap.size w w14) := by rw [h14]; exact B13.out.alloc B13.out.size _
  clear h14 a0 a1 a2 af0 af1 af2
  obtain ⟨a0, a1, a2, af0, af1, af2⟩ := rt_block hr14.out
  go_wp2
  go_ret
  exact ⟨rfl, B14.out⟩
end Go.Proofs.Ytdbhhnphpjdmbaa
