/- Root's laws: the helpers reads, best, same, known answer true. -/
import Derived.Test.YtdbhhnphpjdmbaaMatch
namespace Go.Proofs.Ytdbhhnphpjdmbaa
open Go.RowKit
set_option maxRecDepth 100000
set_option linter.unusedVariables false
set_option linter.unusedSimpArgs false
set_option maxHeartbeats 2000000 in
theorem law_reads (w : World) (A : Option Addr) (n c : Nat) (bs : List UInt8) (hn : bs.length = n) (hc : n ≤ c) (hm : n ≤ 140737488355328) (hr : Rd w A (bcells bs)) :
    Calls Try.prog 25 #[.slice A n c] w fun e w' => e = .returned (.bool true) ∧ Below w.heap.size w w' := by
  have HR := Lib.hid hr
  have HN := Lib.hid hn
  clear hr hn
  go_enter Try.func25, Try.ntmps25
  go_wp2_with (fail)
  refine (root_Read w A n c bs HN.out hc hm HR.out).mono ?_
  rintro e w1 ⟨rfl, hb1⟩
  have hb1 := Lib.hid hb1
  have hs1 := hb1.out.size
  have hro := opt_ok bs
  obtain ⟨r, hrr⟩ : ∃ r, r = Rt.opt (unroot bs) := ⟨_, rfl⟩
  obtain ⟨ok, hok⟩ : ∃ ok, ok = (unroot bs).isSome := ⟨_, rfl⟩
  rw [← hrr, ← hok]
  have Hr := Lib.hid hrr
  have Hok := Lib.hid hok
  have hro := Lib.hid hro
  clear hrr hok
  have hR1 : Hid (∀ o, Rd (w1.alloc o) A (bcells bs)) := fun o => HR.out.below (hb1.out.alloc hs1 o)
  unfold Rt.val
  go_wp2_with (fail)
  refine (ref_Unroot _ A n c bs HN.out hc hm (hR1.out _)).mono ?_
  rintro e w2 ⟨rfl, hb2⟩
  rw [← Hr.out, ← Hok.out]
  have hsz : w1.heap.size < w2.heap.size := by
    have h := hb2.size
    rw [World.size_alloc] at h
    omega
  have hblk : w2.heap[w1.heap.size]? = some (.cells r.cells 65) := (hb2.block _ (by rw [World.size_alloc]; omega)).trans (heap_alloc_new w1 _)
  obtain ⟨a0, a1, a2, af0, af1, af2⟩ := rt_block hblk
  have hB2 : Hid (Below w.heap.size w w2) := below_trans' (hb1.out.alloc hs1 _) (by rw [World.size_alloc]; omega) hb2
  have hs2 := hB2.out.size
  clear hb2 hblk
  unfold Rt.val
  go_wp2
  go_ret
  exact ⟨rfl, hB2.out.alloc hs2 _⟩
theorem match_best {D : Dk} {R : Rk} (h : Match D R) : bestRt R.wait.length [R.row 0, R.row 1] = bestRt D.len [D.row 0, D.row 1] := by
  rw [match_row h, match_row h, h.len]
theorem may_write (R : Rk) (i : Int) (b : List UInt8) (h : R.left = -1) : (R.write i b).may = true := by
  unfold Rk.write
  split
  · split
    · simp [Rk.put, Rk.deed, Rk.may, h]
    · simp [Rk.may, h]
  · simp [Rk.may, h]
set_option maxHeartbeats 4000000 in
theorem law_best (w : World) (s : Int) (A1 A2 : Option Addr) (n1 c1 n2 c2 : Nat) (x y : List UInt8) (hx : x.length = n1) (hy : y.length = n2) (hm1 : n1 ≤ 140737488355328) (hm2 : n2 ≤ 140737488355328) (hr1 : Rd w A1 (bcells x)) (hr2 : Rd w A2 (bcells y)) (hb1 : ∀ ad, A1 = some ad → ad.block < w.heap.size) (hb2 : ∀ ad, A2 = some ad → ad.block < w.heap.size) :
    Calls Try.prog 26 #[.int .i64 s, .slice A1 n1 c1, .slice A2 n2 c2] w fun e w' => e = .returned (.bool true) ∧ Below w.heap.size w w' := by
  have HX := Lib.hid hx
  have HY := Lib.hid hy
  have HR1 := Lib.hid hr1
  have HR2 := Lib.hid hr2
  have HB1 := Lib.hid hb1
  have HB2 := Lib.hid hb2
  clear hx hy hr1 hr2 hb1 hb2
  by_cases hs : 1 ≤ s ∧ s ≤ 160
  · go_enter Try.func26, Try.ntmps26
    go_wp2_with (fail)
    refine (disk_New w s hs.1 hs.2).mono ?_
    rintro e w1 ⟨a, S, rfl, hd, hS, hb1⟩
    go_wp2_with (fail)
    refine (ref_New w1 s hs.1 hs.2).mono ?_
    rintro e w2 ⟨a', S', rfl, hd', hS', hb2⟩
    obtain ⟨k, rfl⟩ := Int.eq_ofNat_of_zero_le (show 0 ≤ s by omega)
    have hsz1 := hb1.size
    have B2 : Hid (Below w.heap.size w w2) := below_trans' hb1 hsz1 hb2
    have T2 : Hid (Two w2 w.heap.size S a _ S' a' _) := ⟨hd.below hb2, hd', fun i hi hi' => by have := hd.lt i hi; have := hS' i hi'; omega, hS, fun i hi => by have := hS' i hi; omega⟩
    have M2 : Hid (Match ⟨zeros (k * 64), []⟩ ⟨zeros (k * 64), zeros (k * 64), List.replicate k false, -1, 0⟩) := match_made k (zeros (k * 64)) (by simp [zeros]) (by omega) (by omega) _ _
    simp only [Int.toNat_natCast] at T2
    clear hd hS hb1 hd' hS' hb2 hsz1
    go_wp2_with (fail)
    refine (disk_Write T2.out.d 0 A1 n1 c1 x HX.out hm1 (HR1.out.to B2.out HB1.out)).mono ?_
    rintro e w3 ⟨rfl, S3, hd, hS, hk⟩
    have T3 := Lib.hid (T2.out.disk B2.out.size hd hS hk)
    have B3 : Hid (Below w.heap.size w w3) := B2.out.trans (hk.below B2.out.size T2.out.dlow)
    clear hd hS hk
    go_wp2_with (fail)
    refine (ref_Write T3.out.r 0 A1 n1 c1 x HX.out hm1 (HR1.out.to B3.out HB1.out) (fun ad had hS => by have := HB1.out ad had; have := T3.out.rlow _ hS; omega)).mono ?_
    rintro e w4 ⟨rfl, hr, hk⟩
    have T4 := Lib.hid (T3.out.ref hr hk)
    have B4 : Hid (Below w.heap.size w w4) := B3.out.trans (hk.below B3.out.size T3.out.rlow)
    have M4 := Lib.hid (match_write M2.out 0 x rfl)
    clear hr hk
    go_wp2_with (fail)
    refine (disk_Write T4.out.d 1 A2 n2 c2 y HY.out hm2 (HR2.out.to B4.out HB2.out)).mono ?_
    rintro e w5 ⟨rfl, S5, hd, hS, hk⟩
    have T5 := Lib.hid (T4.out.disk B4.out.size hd hS hk)
    have B5 : Hid (Below w.heap.size w w5) := B4.out.trans (hk.below B4.out.size T4.out.dlow)
    clear hd hS hk
    go_wp2_with (fail)
    refine (ref_Write T5.out.r 1 A2 n2 c2 y HY.out hm2 (HR2.out.to B5.out HB2.out) (fun ad had hS => by have := HB2.out ad had; have := T5.out.rlow _ hS; omega)).mono ?_
    rintro e w6 ⟨rfl, hr, hk⟩
    have T6 := Lib.hid (T5.out.ref hr hk)
    have B6 : Hid (Below w.heap.size w w6) := B5.out.trans (hk.below B5.out.size T5.out.rlow)
    have M6 := Lib.hid (match_write M4.out 1 y (may_write _ _ _ rfl))
    clear hr hk
    go_wp2_with (fail)
    generalize ((Dk.mk (zeros (k * 64)) []).write 0 x).write 1 y = D6 at T6 M6
    generalize ((Rk.mk (zeros (k * 64)) (zeros (k * 64)) (List.replicate k false) (-1) 0).write 0 x).write 1 y = R6 at T6 M6
    have hbest := match_best M6.out
    obtain ⟨r, hrr⟩ : ∃ r, r = bestRt D6.len [D6.row 0, D6.row 1] := ⟨_, rfl⟩
    rw [← hrr] at hbest
    have hbest := Lib.hid hbest
    have hro : r.ok := hrr ▸ bestRt_ok _ _
    have hro := Lib.hid hro
    have Hr := Lib.hid hrr
    clear hrr
    refine (root_Best T6.out.d).mono ?_
    rintro e w7 ⟨rfl, hb7⟩
    rw [← Hr.out]
    have B7 : Hid (Below w.heap.size w w7) := below_more B6 hb7
    have T7 := Lib.hid (T6.out.below hb7)
    have hs7 := B7.out.size
    clear hb7
    have B8 := Lib.hid fun o => B7.out.alloc hs7 o
    have T8 := Lib.hid fun o => T7.out.below ((Below.refl _ _).alloc (Nat.le_refl _) o)
    obtain ⟨ok, hok⟩ : ∃ ok, ok = decide (0 < r.epoch) := ⟨_, rfl⟩
    rw [← hok]
    have Hok := Lib.hid hok
    clear hok
    unfold Rt.val
    go_wp2_with (fail)
    refine (ref_Best (T8.out _).r).mono ?_
    rintro e w9 ⟨rfl, hb9⟩
    rw [hbest.out, ← Hok.out]
    have hsz : w7.heap.size < w9.heap.size := by
      have h := hb9.size
      rw [World.size_alloc] at h
      omega
    have hblk : w9.heap[w7.heap.size]? = some (.cells r.cells 65) := (hb9.block _ (by rw [World.size_alloc]; omega)).trans (heap_alloc_new w7 _)
    obtain ⟨a0, a1, a2, af0, af1, af2⟩ := rt_block hblk
    have B9 : Hid (Below w.heap.size w w9) := below_trans' (B8.out _) (by rw [World.size_alloc]; omega) hb9
    have hs9 := B9.out.size
    clear hb9 hblk
    unfold Rt.val
    go_wp2
    go_ret
    exact ⟨rfl, B9.out.alloc hs9 _⟩
  · go_enter Try.func26, Try.ntmps26
    go_wp2_with (fail)
    refine (disk_New_none w s hs).mono ?_
    rintro e w1 ⟨rfl, rfl⟩
    go_wp2_with (fail)
    refine (ref_New_none w s hs).mono ?_
    rintro e w1 ⟨rfl, rfl⟩
    go_wp2
    go_ret
    exact ⟨rfl, Below.refl _ _⟩
theorem held_next {w W w1 : World} {b B : Nat} {x y z : Value} {o : Obj} (h : (W.cell? ⟨b, 0, none⟩ = some x ∧ W.cell? ⟨b, 1, none⟩ = some y ∧ W.cell? ⟨b, 2, none⟩ = some z) ∧ Below B w W) (e : w1 = W.alloc o) (hB : B ≤ w.heap.size := by exact Nat.le_refl _) : (w1.cell? ⟨b, 0, none⟩ = some x ∧ w1.cell? ⟨b, 1, none⟩ = some y ∧ w1.cell? ⟨b, 2, none⟩ = some z) ∧ Below B w w1 := by
  subst e
  obtain ⟨⟨h0, h1, h2⟩, hb⟩ := h
  have hk : ∀ {j : Nat} {v : Value}, W.cell? ⟨b, j, none⟩ = some v → (W.alloc o).cell? ⟨b, j, none⟩ = some v := fun {j v} hv => by
    rw [← hv]
    exact World.cell?_of_block (Below.heap_alloc _ _ _ (cell_blk hv))
  exact ⟨⟨hk h0, hk h1, hk h2⟩, hb.alloc (Nat.le_trans hB hb.size) o⟩
theorem held_use {S : World → Prop} {K : Act → World → Prop} {Q : Exit → Act → World → Prop} {a : Act} {W : World} (h : S W) (k : S W → Exit.then K Q .normal a W) : Exit.then K Q .normal a W := k h
theorem rd3_of {W : World} {b : Nat} {x y z : Value} (h0 : W.cell? ⟨b, 0, none⟩ = some x) (h1 : W.cell? ⟨b, 1, none⟩ = some y) (h2 : W.cell? ⟨b, 2, none⟩ = some z) : Rd W (some ⟨b, 0, none⟩) [x, y, z] := fun _ => ⟨_, rfl, fun j v hj => by
  rw [add_at]
  match j, hj with
  | 0, hj => simp at hj; rw [h0, hj]
  | 1, hj => simp at hj; rw [h1, hj]
  | 2, hj => simp at hj; rw [h2, hj]
  | j + 3, hj => simp at hj⟩
set_option maxHeartbeats 4000000 in
theorem law_same (w : World) (r : Rt) (hr : r.ok) (s p : Int) (hs : s ≤ 9223372036854775807) :
    Calls Try.prog 23 #[r.val, .int .i64 s, .int .i64 p] w fun e w' => e = .returned (.bool true) ∧ Below w.heap.size w w' := by
  have hrange := hr
  unfold Rt.ok at hrange
  have Hr := Lib.hid hr
  clear hr
  unfold Rt.val
  go_enter Try.func23, Try.ntmps23
  go_wp2_with (fail)
  have hcv : Hid (∀ (W : World) (A : Option Addr) (c : Nat), Rd W A (bcells (rootBytes r)) → (convert 66 9 (.slice A 64 c)).run Try.prog W = .ok (.string ⟨(rootBytes r).toArray⟩) W) := fun W A c h => conv_str _ _ 5 _ Try.underlying66 Try.underlying5 Try.underlying9 A 64 c _ (rootBytes_length _) h
  have hS0 : ((w.alloc (.cells #[.int .i64 r.log, .int .i64 r.pages, .int .u32 r.epoch] 65)).drew.cell? ⟨w.heap.size, 0, none⟩ = some (.int .i64 r.log) ∧ (w.alloc (.cells #[.int .i64 r.log, .int .i64 r.pages, .int .u32 r.epoch] 65)).drew.cell? ⟨w.heap.size, 1, none⟩ = some (.int .i64 r.pages) ∧ (w.alloc (.cells #[.int .i64 r.log, .int .i64 r.pages, .int .u32 r.epoch] 65)).drew.cell? ⟨w.heap.size, 2, none⟩ = some (.int .u32 r.epoch)) ∧ Below w.heap.size w (w.alloc (.cells #[.int .i64 r.log, .int .i64 r.pages, .int .u32 r.epoch] 65)).drew := ⟨rd3 (lit_rd w [.int .i64 r.log, .int .i64 r.pages, .int .u32 r.epoch] 65), below_drewN' ((Below.refl _ _).alloc (Nat.le_refl _) _) 1⟩
  go_region_held3 (fun w' => (w'.cell? ⟨w.heap.size, 0, none⟩ = some (.int .i64 r.log) ∧ w'.cell? ⟨w.heap.size, 1, none⟩ = some (.int .i64 r.pages) ∧ w'.cell? ⟨w.heap.size, 2, none⟩ = some (.int .u32 r.epoch)) ∧ Below w.heap.size w w') (assumption) (first
    | (go_at_call 52; refine (root_Right r s _ hs).mono ?_; rintro e1 w1 ⟨rfl, o1, h1⟩; have hS1 := held_next (by assumption) h1; clear h1)
    | (go_at_call 53; refine (ref_Right r s _ hs).mono ?_; rintro e2 w2 ⟨rfl, o2, h2⟩; have hS2 := held_next (by assumption) h2; clear h2)
    | (go_at_call 54; refine (root_Home r p _).mono ?_; rintro e3 w3 ⟨rfl, o3, h3⟩; have hS3 := held_next (by assumption) h3; clear h3)
    | (go_at_call 55; refine (ref_Home r p _).mono ?_; rintro e4 w4 ⟨rfl, o4, h4⟩; have hS4 := held_next (by assumption) h4; clear h4))
  all_goals
    refine held_use (S := (fun w' => (w'.cell? ⟨w.heap.size, 0, none⟩ = some (.int .i64 r.log) ∧ w'.cell? ⟨w.heap.size, 1, none⟩ = some (.int .i64 r.pages) ∧ w'.cell? ⟨w.heap.size, 2, none⟩ = some (.int .u32 r.epoch)) ∧ Below w.heap.size w w')) (by assumption) (fun hh => ?_)
    obtain ⟨⟨d0, d1, d2⟩, B7⟩ := hh
    have hX7 := Lib.hid (rd3_of d0 d1 d2)
    have B7 := Lib.hid B7
    have hs7 := B7.out.size
    by_cases l0 : r.log < 0
    · go_wp2
      go_ret
      exact ⟨rfl, B7.out⟩
    by_cases p0 : r.pages < 0
    · go_wp2
      go_ret
      exact ⟨rfl, B7.out⟩
    by_cases l1 : r.log > 2147483647
    · go_wp2
      go_ret
      exact ⟨rfl, B7.out⟩
    by_cases p1 : r.pages > 2147483647
    · go_wp2
      go_ret
      exact ⟨rfl, B7.out⟩
    go_wp2_with (fail)
    refine wp_region_held_drew (S := (fun w' => w'.cell? ⟨w.heap.size, 0, none⟩ = some (.int .i64 r.log) ∧ w'.cell? ⟨w.heap.size, 1, none⟩ = some (.int .i64 r.pages) ∧ w'.cell? ⟨w.heap.size, 2, none⟩ = some (.int .u32 r.epoch))) (by kernel_rfl) (by go_keep) (fun hHeld => ?_)
    refine wpAnyH_take (i := 0) (v := ?_) (by rfl) (by kernel_rfl) (by kernel_rfl) (by kernel_rfl) (by exact fun _ _ _ h => h) (Or.inl ⟨by rfl, ?_⟩) (by assumption) ?_
    rotate_left
    · intro w' hSw
      try dsimp only at hSw
      go_simp
      try with_reducible rfl
    try simp only [Act.put, List.getElem_toArray, List.getElem_cons_zero, List.getElem_cons_succ, List.setIfInBounds_toArray, List.set_cons_zero, List.set_cons_succ]
    refine wpAnyH_take (i := 3) (v := ?_) (by rfl) (by kernel_rfl) (by kernel_rfl) (by kernel_rfl) (by exact fun _ _ _ h => h) (Or.inl ⟨by rfl, ?_⟩) (by assumption) ?_
    rotate_left
    · intro w' hSw
      try dsimp only at hSw
      go_simp
      try with_reducible rfl
    try simp only [Act.put, List.getElem_toArray, List.getElem_cons_zero, List.getElem_cons_succ, List.setIfInBounds_toArray, List.set_cons_zero, List.set_cons_succ]
    refine wpAnyH_ready (rs := [1]) (by kernel_rfl) (by simp) ?_
    refine (AllReadyH.cons rfl (fun K hK => ?_) AllReadyH.nil)
    · rw [if_pos (by rfl)]
      go_simp
      go_at_call 29
      refine (root_Bytes r Hr.out _).mono ?_
      rintro e8 w8 ⟨A8, c8, rfl, ho8, hb8⟩
      replace ho8 := Lib.hid ho8
      have hX8 := Lib.hid ((Rd.drewd hX7.out).below hb8)
      have B8 := below_more (below_drewN' B7.out 1) hb8
      obtain ⟨d0, d1, d2⟩ := rd3 hX8.out
      have cv8 := hcv.out w8 A8 c8 (own_rd ho8.out)
      clear hb8
      go_wp2_with (fail)
      refine hK.out _ _ (⟨d0, d1, d2⟩) (fun hHeld => ?_)
      clear hK K
      try simp only [Act.put, List.getElem_toArray, List.getElem_cons_zero, List.getElem_cons_succ, List.setIfInBounds_toArray, List.set_cons_zero, List.set_cons_succ]
      refine wpAnyH_more (S' := fun w' => (w'.cell? ⟨w.heap.size, 0, none⟩ = some (.int .i64 r.log) ∧ w'.cell? ⟨w.heap.size, 1, none⟩ = some (.int .i64 r.pages) ∧ w'.cell? ⟨w.heap.size, 2, none⟩ = some (.int .u32 r.epoch)) ∧ (convert 66 9 (.slice A8 64 c8)).run Try.prog w' = .ok (.string ⟨(rootBytes r).toArray⟩) w') (fun w' h' => h'.1) _ _ _ _ ?_
      have hMore : (fun w' => (w'.cell? ⟨w.heap.size, 0, none⟩ = some (.int .i64 r.log) ∧ w'.cell? ⟨w.heap.size, 1, none⟩ = some (.int .i64 r.pages) ∧ w'.cell? ⟨w.heap.size, 2, none⟩ = some (.int .u32 r.epoch)) ∧ (convert 66 9 (.slice A8 64 c8)).run Try.prog w' = .ok (.string ⟨(rootBytes r).toArray⟩) w') _ := ⟨⟨d0, d1, d2⟩, cv8⟩
      clear hHeld
      refine wpAnyH_take (i := 2) (v := ?_) (by rfl) (by kernel_rfl) (by kernel_rfl) (by kernel_rfl) (by exact fun _ _ _ h => h) (Or.inl ⟨by rfl, ?_⟩) (by assumption) ?_
      rotate_left
      · intro w' hSw
        try dsimp only at hSw
        go_simp
        try with_reducible rfl
      try simp only [Act.put, List.getElem_toArray, List.getElem_cons_zero, List.getElem_cons_succ, List.setIfInBounds_toArray, List.set_cons_zero, List.set_cons_succ]
      refine wpAnyH_ready (rs := [4]) (by kernel_rfl) (by simp) ?_
      refine AllReadyH.cons rfl (fun K hK => ?_) AllReadyH.nil
      rw [if_pos (by rfl)]
      go_simp
      go_at_call 24
      refine (ref_Root r Hr.out _).mono ?_
      rintro e9 w9 ⟨A9, c9, rfl, ho9, hb9⟩
      have hX9 := Lib.hid (hX8.out.below hb9)
      have B9 := below_more B8 hb9
      obtain ⟨f0, f1, f2⟩ := rd3 hX9.out
      have cv89 := hcv.out w9 A8 c8 ((own_rd ho8.out).below hb9)
      have cv9 := hcv.out w9 A9 c9 (own_rd ho9)
      clear hb9 ho9
      go_wp2_with (fail)
      refine hK.out _ _ ⟨⟨f0, f1, f2⟩, cv89⟩ (fun hHeld => ?_)
      clear hK K
      try simp only [Act.put, List.getElem_toArray, List.getElem_cons_zero, List.getElem_cons_succ, List.setIfInBounds_toArray, List.set_cons_zero, List.set_cons_succ]
      refine wpAnyH_more (S' := fun w' => ((w'.cell? ⟨w.heap.size, 0, none⟩ = some (.int .i64 r.log) ∧ w'.cell? ⟨w.heap.size, 1, none⟩ = some (.int .i64 r.pages) ∧ w'.cell? ⟨w.heap.size, 2, none⟩ = some (.int .u32 r.epoch)) ∧ (convert 66 9 (.slice A8 64 c8)).run Try.prog w' = .ok (.string ⟨(rootBytes r).toArray⟩) w') ∧ (convert 66 9 (.slice A9 64 c9)).run Try.prog w' = .ok (.string ⟨(rootBytes r).toArray⟩) w') (fun w' h' => h'.1) _ _ _ _ ?_
      have hMore : (fun w' => ((w'.cell? ⟨w.heap.size, 0, none⟩ = some (.int .i64 r.log) ∧ w'.cell? ⟨w.heap.size, 1, none⟩ = some (.int .i64 r.pages) ∧ w'.cell? ⟨w.heap.size, 2, none⟩ = some (.int .u32 r.epoch)) ∧ (convert 66 9 (.slice A8 64 c8)).run Try.prog w' = .ok (.string ⟨(rootBytes r).toArray⟩) w') ∧ (convert 66 9 (.slice A9 64 c9)).run Try.prog w' = .ok (.string ⟨(rootBytes r).toArray⟩) w') _ := ⟨⟨⟨f0, f1, f2⟩, cv89⟩, cv9⟩
      clear hHeld
      refine wpAnyH_take (i := 5) (v := ?_) (by rfl) (by kernel_rfl) (by kernel_rfl) (by kernel_rfl) (by exact fun _ _ _ h => h) (Or.inl ⟨by rfl, ?_⟩) (by assumption) ?_
      rotate_left
      · intro w' hSw
        try dsimp only at hSw
        go_simp
        try with_reducible rfl
      try simp only [Act.put, List.getElem_toArray, List.getElem_cons_zero, List.getElem_cons_succ, List.setIfInBounds_toArray, List.set_cons_zero, List.set_cons_succ]
      refine wpAnyH_take (i := 6) (v := ?_) (by rfl) (by kernel_rfl) (by kernel_rfl) (by kernel_rfl) (by exact fun _ _ _ h => h) (Or.inl ⟨by rfl, ?_⟩) (by assumption) ?_
      rotate_left
      · intro w' hSw
        try dsimp only at hSw
        go_simp
        try with_reducible rfl
      try simp only [Act.put, List.getElem_toArray, List.getElem_cons_zero, List.getElem_cons_succ, List.setIfInBounds_toArray, List.set_cons_zero, List.set_cons_succ]
      refine wpAnyH_take (i := 7) (v := ?_) (by rfl) (by kernel_rfl) (by kernel_rfl) (by kernel_rfl) (by exact fun _ _ _ h => h) (Or.inl ⟨by rfl, ?_⟩) (by assumption) ?_
      rotate_left
      · intro w' hSw
        try dsimp only at hSw
        go_simp
        try with_reducible rfl
      try simp only [Act.put, List.getElem_toArray, List.getElem_cons_zero, List.getElem_cons_succ, List.setIfInBounds_toArray, List.set_cons_zero, List.set_cons_succ]
      refine wpAnyH_done (by kernel_rfl) ?_ _
      go_wp2
      go_ret
      exact ⟨rfl, B9.out⟩
end Go.Proofs.Ytdbhhnphpjdmbaa
