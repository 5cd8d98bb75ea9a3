/- The law RootBack: its walk. -/
import Derived.Test.YtdbhhnphpjdmbaaRootTells
import Derived.Test.YtdbhhnphpjdmbaaRootTurn
namespace Go.Proofs.Ytdbhhnphpjdmbaa
open Go.RowKit
set_option maxRecDepth 100000
set_option linter.unusedVariables false
set_option linter.unusedSimpArgs false
theorem and_range (x m : Int) (hm : 0 ≤ m) (hm2 : m < 4294967296) : 0 ≤ bits .and .u32 x m ∧ bits .and .u32 x m ≤ m := by
  have h1 := bounds_u32 (wf_bits .and .u32 x m)
  refine ⟨h1.1, ?_⟩
  have e : BitVec.ofInt IntKind.u32.bits m = BitVec.ofNat 32 m.toNat := by
    show BitVec.ofInt 32 m = _
    apply BitVec.eq_of_toNat_eq
    rw [BitVec.toNat_ofInt, BitVec.toNat_ofNat]
    omega
  unfold bits
  simp only [e]
  have hw : ∀ v : BitVec 32, IntKind.u32.wrap (v.toNat : Int) = v.toNat := fun v => by
    have := v.isLt
    simp [IntKind.wrap, IntKind.signed, IntKind.bits]
    omega
  show IntKind.u32.wrap (((BitVec.ofInt 32 x &&& BitVec.ofNat 32 m.toNat : BitVec 32).toNat : Int)) ≤ m
  rw [hw, BitVec.toNat_and, BitVec.toNat_ofNat]
  have := Nat.and_le_right (n := (BitVec.ofInt 32 x).toNat) (m := m.toNat % 2 ^ 32)
  omega
theorem turn_ne (x t : Int) (h0 : 0 ≤ x) (h1 : x < 256) : bits .xor .u8 x (bits .or .u8 t 1) ≠ x := by
  have hw : ∀ v : BitVec 8, IntKind.u8.wrap (v.toNat : Int) = v.toNat := fun v => by
    have := v.isLt
    simp [IntKind.wrap, IntKind.signed, IntKind.bits]
    omega
  have e1 : bits .or .u8 t 1 = (((BitVec.ofInt 8 t ||| 1#8 : BitVec 8).toNat : Nat) : Int) := by
    unfold bits
    exact hw _
  have e2 : ∀ y : BitVec 8, BitVec.ofInt 8 (y.toNat : Int) = y := fun y => by
    apply BitVec.eq_of_toNat_eq
    rw [BitVec.toNat_ofInt]
    have := y.isLt
    omega
  intro h
  have e3 : bits .xor .u8 x (bits .or .u8 t 1) = (((BitVec.ofInt 8 x ^^^ (BitVec.ofInt 8 t ||| 1#8) : BitVec 8).toNat : Nat) : Int) := by
    rw [e1]
    unfold bits
    simp only
    rw [show BitVec.ofInt IntKind.u8.bits (((BitVec.ofInt 8 t ||| 1#8 : BitVec 8).toNat : Nat) : Int) = (BitVec.ofInt 8 t ||| 1#8 : BitVec 8) from e2 _]
    exact hw _
  rw [e3] at h
  have hx : ((BitVec.ofInt 8 x).toNat : Int) = x := by rw [BitVec.toNat_ofInt]; omega
  have h2 : (BitVec.ofInt 8 x ^^^ (BitVec.ofInt 8 t ||| 1#8) : BitVec 8) = BitVec.ofInt 8 x := BitVec.eq_of_toNat_eq (by omega)
  have h3 : (BitVec.ofInt 8 t ||| 1#8 : BitVec 8) = 0#8 := by
    have h4 := congrArg (fun v => BitVec.ofInt 8 x ^^^ v) h2
    simp only [BitVec.xor_self] at h4
    rw [← BitVec.xor_assoc, BitVec.xor_self, BitVec.zero_xor] at h4
    exact h4
  have h5 := congrArg (fun v => v.getLsbD 0) h3
  simp at h5
theorem len_write (D : Dk) (i : Int) (b : List UInt8) : (D.write i b).len = D.len := by
  unfold Dk.write
  split <;> rfl
theorem row_write (D : Dk) (i j : Int) (b : List UInt8) (hi : D.there i = true) (hb : b.length = 64) : (D.write i b).row j = if j = i then b else D.row j := by
  have hw : D.write i b = ⟨D.img, waitPut D.wait i b⟩ := by unfold Dk.write; rw [if_pos ⟨hi, hb⟩]
  have ht : ∀ j, (Dk.mk D.img (waitPut D.wait i b)).there j = D.there j := fun j => rfl
  rw [hw]
  unfold Dk.row
  rw [ht]
  by_cases hj : j = i
  · subst hj
    rw [if_pos hi, if_pos rfl]
    unfold Dk.get
    rw [waitAt_put, if_pos rfl]
    rfl
  · rw [if_neg hj]
    split
    · unfold Dk.get
      rw [waitAt_put, if_neg hj]
    · rfl
/-- the later one of two is the best, wherever it lies; beside none the earlier one is -/
theorem back_best {D : Dk} {k : Int} {R O : Rt} {x y z : List UInt8} (hk : k = 0 ∨ k = 1) (hl : D.len = 30) (hx : x.length = 64) (hy : y.length = 64) (hz : z.length = 64) (ux : unroot x = some R) (uy : unroot y = some O) (uz : unroot z = none) (hr : rightB R 30 = true) (ho : rightB O 30 = true) (he : R.epoch < O.epoch) (h1 : 1 ≤ R.epoch) :
    bestRt (30 : Nat) [((D.write k x).write (1 - k) y).row 0, ((D.write k x).write (1 - k) y).row 1] = O ∧ bestRt (30 : Nat) [(((D.write k x).write (1 - k) y).write (1 - k) z).row 0, (((D.write k x).write (1 - k) y).write (1 - k) z).row 1] = R := by
  have h0 : D.there 0 = true := by rw [Dk.there_iff, hl]; decide
  have hI : D.there 1 = true := by rw [Dk.there_iff, hl]; decide
  have hw : ∀ (E : Dk) i b j, (E.write i b).there j = E.there j := fun E i b j => by unfold Dk.there; rw [len_write]
  have hk1 : D.there k = true := by rcases hk with rfl | rfl <;> assumption
  have hk2 : D.there (1 - k) = true := by rcases hk with rfl | rfl <;> assumption
  have r1 : ∀ j, ((D.write k x).write (1 - k) y).row j = if j = 1 - k then y else if j = k then x else D.row j := fun j => by
    rw [row_write _ _ _ _ (by rw [hw]; exact hk2) hy, row_write _ _ _ _ hk1 hx]
  have r2 : ∀ j, (((D.write k x).write (1 - k) y).write (1 - k) z).row j = if j = 1 - k then z else if j = k then x else D.row j := fun j => by
    rw [row_write _ _ _ _ (by rw [hw, hw]; exact hk2) hz, r1]
    split <;> rfl
  have c1 : (30 : Int) = ((30 : Nat) : Int) := rfl
  have d1 : decide (Rt.zero.epoch < R.epoch) = true := by
    apply decide_eq_true
    show (0 : Int) < R.epoch
    omega
  have d2 : decide (R.epoch < O.epoch) = true := decide_eq_true he
  have d3 : decide (Rt.zero.epoch < O.epoch) = true := by
    apply decide_eq_true
    show (0 : Int) < O.epoch
    omega
  have d4 : decide (O.epoch < R.epoch) = false := decide_eq_false (by omega)
  rw [c1] at hr ho
  rcases hk with rfl | rfl
  · have q1 := (r1 0).trans (by simp : _ = x)
    have q2 := (r1 1).trans (by simp : _ = y)
    have q3 := (r2 0).trans (by simp : _ = x)
    have q4 := (r2 1).trans (by simp : _ = z)
    rw [q1, q2, q3, q4]
    simp only [bestRt, List.foldl_cons, List.foldl_nil]
    rw [step_some _ _ ux, hr, d1, Bool.and_true, if_pos rfl, step_some _ _ uy, ho, d2, step_none _ _ uz]
    exact ⟨rfl, rfl⟩
  · have q1 := (r1 0).trans (by simp : _ = y)
    have q2 := (r1 1).trans (by simp : _ = x)
    have q3 := (r2 0).trans (by simp : _ = z)
    have q4 := (r2 1).trans (by simp : _ = x)
    rw [q1, q2, q3, q4]
    simp only [bestRt, List.foldl_cons, List.foldl_nil]
    rw [step_some _ _ uy, ho, d3, Bool.and_true, if_pos rfl, step_some _ _ ux, hr, d4, step_none _ _ uz, step_some _ _ ux, hr, d1]
    exact ⟨rfl, rfl⟩
structure BackAt (w : World) (b0 r o gx cx gy cy gz cz : Nat) (R O : Rt) (zz : List UInt8) : Prop where
  hr : w.heap[r]? = some (.cells R.cells 65)
  ho : w.heap[o]? = some (.cells O.cells 65)
  hx : w.ownsRow 0 5 1 (.slice (some ⟨gx, 0, none⟩) 64 cx) 64 (bcells (rootBytes R))
  hy : w.ownsRow 0 5 1 (.slice (some ⟨gy, 0, none⟩) 64 cy) 64 (bcells (rootBytes O))
  hz : w.ownsRow 0 5 1 (.slice (some ⟨gz, 0, none⟩) 64 cz) 64 (bcells zz)
  lt : r < b0 ∧ o < b0 ∧ gx < b0 ∧ gy < b0 ∧ gz < b0
theorem BackAt.keep {w w' : World} {b0 r o gx cx gy cy gz cz : Nat} {R O : Rt} {zz : List UInt8} (h : BackAt w b0 r o gx cx gy cy gz cz R O zz) (hk : ∀ k, k < b0 → w'.heap[k]? = w.heap[k]?) : BackAt w' b0 r o gx cx gy cy gz cz R O zz := by
  obtain ⟨l1, l2, l3, l4, l5⟩ := h.lt
  have hm : ∀ {g c : Nat} {xs : List Value}, g < b0 → w.ownsRow 0 5 1 (.slice (some ⟨g, 0, none⟩) 64 c) 64 xs → w'.ownsRow 0 5 1 (.slice (some ⟨g, 0, none⟩) 64 c) 64 xs := fun {g c xs} hg ho => own_move' ho (fun k e => by
    have : g = k := by simpa [Value.ownBlock] using e
    exact hk k (this ▸ hg))
  exact ⟨(hk r l1).trans h.hr, (hk o l2).trans h.ho, hm l3 h.hx, hm l4 h.hy, hm l5 h.hz, h.lt⟩
theorem BackAt.below {w w' : World} {b0 r o gx cx gy cy gz cz : Nat} {R O : Rt} {zz : List UInt8} (h : BackAt w b0 r o gx cx gy cy gz cz R O zz) (hb : Below w.heap.size w w') (hs : b0 ≤ w.heap.size) : BackAt w' b0 r o gx cx gy cy gz cz R O zz := h.keep (fun k hk => hb.block k (by omega))
theorem BackAt.keeps {w w' : World} {S : Nat → Prop} {b0 r o gx cx gy cy gz cz : Nat} {R O : Rt} {zz : List UInt8} (h : BackAt w b0 r o gx cx gy cy gz cz R O zz) (hb : Keeps S w w') (hs : b0 ≤ w.heap.size) (hS : ∀ i, S i → b0 ≤ i) : BackAt w' b0 r o gx cx gy cy gz cz R O zz := h.keep (fun k hk => hb.block k (by omega) (fun hs => by have := hS k hs; omega))
set_option maxHeartbeats 8000000 in
theorem RootBack_walk (W : World) (lg : Int) (w0 : (Lit.int .i64 lg).wf = true) (pg : Int) (w1 : (Lit.int .i64 pg).wf = true) (a : Int) (w2 : (Lit.int .u32 a).wf = true) (b : Int) (w3 : (Lit.int .u32 b).wf = true) (at_ : Int) (w4 : (Lit.int .i64 at_).wf = true) (tn : Int) (w5 : (Lit.int .u8 tn).wf = true) :
    Calls Try.prog 10 #[.int .i64 lg, .int .i64 pg, .int .u32 a, .int .u32 b, .int .i64 at_, .int .u8 tn] W fun e w' => e = .returned (.bool true) ∧ Below W.heap.size W w' := by
  have ha := and_range a 65535 (by decide) (by decide)
  have hb := and_range b 255 (by decide) (by decide)
  have hb1 := and_range b 1 (by decide) (by decide)
  clear w0 w1 w2 w3 w4 w5
  obtain ⟨va, hva⟩ : ∃ va, bits .and .u32 a 65535 = va := ⟨_, rfl⟩
  obtain ⟨vb, hvb⟩ : ∃ vb, bits .and .u32 b 255 = vb := ⟨_, rfl⟩
  obtain ⟨v1, hv1⟩ : ∃ v1, bits .and .u32 b 1 = v1 := ⟨_, rfl⟩
  rw [hva] at ha
  rw [hvb] at hb
  rw [hv1] at hb1
  go_enter Try.func10, Try.ntmps10
  go_wp2_with (fail)
  refine (book_Within lg 1 9 _ (by decide) (by decide) (by decide)).mono ?_
  rintro e1 u1 ⟨m1, rfl, a1, b1, rfl⟩
  go_wp2_with (fail)
  refine (book_Within pg 1 9 _ (by decide) (by decide) (by decide)).mono ?_
  rintro e2 u2 ⟨m2, rfl, a2, b2, rfl⟩
  go_wp2_with (fail)
  obtain ⟨R, hR⟩ : ∃ R : Rt, R = ⟨m1, m2, 1 + va⟩ := ⟨_, rfl⟩
  obtain ⟨O, hO⟩ : ∃ O : Rt, O = ⟨m1, m2, 1 + va + 1 + vb⟩ := ⟨_, rfl⟩
  obtain ⟨W2, hW2⟩ : ∃ W2, W2 = (W.alloc (.cells #[.int .i64 m1, .int .i64 m2, .int .u32 (1 + va)] 65)).alloc (.cells #[.int .i64 m1, .int .i64 m2, .int .u32 (1 + va + 1 + vb)] 65) := ⟨_, rfl⟩
  rw [← hW2]
  have HZ2 : Hid (W2.heap.size = W.heap.size + 2) := by show _ = _; rw [hW2, World.size_alloc, World.size_alloc]
  have HR2 : Hid (W2.heap[W.heap.size]? = some (.cells R.cells 65)) := by rw [hW2, hR]; exact blk_alloc (heap_alloc_new W _) _
  have HO2 : Hid (W2.heap[W.heap.size + 1]? = some (.cells O.cells 65)) := by
    have h := heap_alloc_new (W.alloc (.cells #[.int .i64 m1, .int .i64 m2, .int .u32 (1 + va)] 65)) (.cells #[.int .i64 m1, .int .i64 m2, .int .u32 (1 + va + 1 + vb)] 65)
    rw [World.size_alloc] at h
    rw [hW2, hO]
    exact h
  have HB2 : Hid (Below W.heap.size W W2) := by rw [hW2]; exact ((Below.refl _ _).alloc (Nat.le_refl _) _).alloc (by rw [World.size_alloc]; omega) _
  have HRok : Hid R.ok := by rw [hR]; exact ⟨by show 0 ≤ 1 + va; omega, by show 1 + va < 4294967296; omega⟩
  have HOok : Hid O.ok := by rw [hO]; exact ⟨by show 0 ≤ 1 + va + 1 + vb; omega, by show 1 + va + 1 + vb < 4294967296; omega⟩
  have HRr : Hid (1 ≤ R.log ∧ R.log ≤ 9 ∧ 1 ≤ R.pages ∧ R.pages ≤ 9 ∧ 1 ≤ R.epoch ∧ O.log = R.log ∧ O.pages = R.pages ∧ R.epoch < O.epoch) := by
    rw [hR, hO]
    exact ⟨a1, b1, a2, b2, by show 1 ≤ 1 + va; omega, rfl, rfl, by show 1 + va < 1 + va + 1 + vb; omega⟩
  clear hW2 hR hO
  go_upto_region 4 with fail
  go_cut [15, 16] (fun s17 s18 wx => ∃ gx cx gy cy, s17 = .slice (some ⟨gx, 0, none⟩) 64 cx ∧ s18 = .slice (some ⟨gy, 0, none⟩) 64 cy ∧ Hid (wx.ownsRow W2.heap.size 5 1 (.slice (some ⟨gx, 0, none⟩) 64 cx) 64 (bcells (rootBytes R)) ∧ wx.ownsRow W2.heap.size 5 1 (.slice (some ⟨gy, 0, none⟩) 64 cy) 64 (bcells (rootBytes O)) ∧ gx ≠ gy) ∧ Hid (Below W2.heap.size W2 wx))
  case first =>
    have hS0 : (W2.drew.cell? ⟨W.heap.size, 0, none⟩ = some (.int .i64 R.log) ∧ W2.drew.cell? ⟨W.heap.size, 1, none⟩ = some (.int .i64 R.pages) ∧ W2.drew.cell? ⟨W.heap.size, 2, none⟩ = some (.int .u32 R.epoch)) ∧ (W2.drew.cell? ⟨W.heap.size + 1, 0, none⟩ = some (.int .i64 O.log) ∧ W2.drew.cell? ⟨W.heap.size + 1, 1, none⟩ = some (.int .i64 O.pages) ∧ W2.drew.cell? ⟨W.heap.size + 1, 2, none⟩ = some (.int .u32 O.epoch)) := by
      obtain ⟨a0, a1, a2, _⟩ := rt_block HR2.out
      obtain ⟨b0, b1, b2, _⟩ := rt_block HO2.out
      exact ⟨⟨a0, a1, a2⟩, b0, b1, b2⟩
    go_region_held3 (fun w' => (w'.cell? ⟨W.heap.size, 0, none⟩ = some (.int .i64 R.log) ∧ w'.cell? ⟨W.heap.size, 1, none⟩ = some (.int .i64 R.pages) ∧ w'.cell? ⟨W.heap.size, 2, none⟩ = some (.int .u32 R.epoch)) ∧ (w'.cell? ⟨W.heap.size + 1, 0, none⟩ = some (.int .i64 O.log) ∧ w'.cell? ⟨W.heap.size + 1, 1, none⟩ = some (.int .i64 O.pages) ∧ w'.cell? ⟨W.heap.size + 1, 2, none⟩ = some (.int .u32 O.epoch))) (assumption) (first
      | (go_at_call_of 29 (Value.agg #[.int .i64 R.log, .int .i64 R.pages, .int .u32 R.epoch]); refine (root_Bytes R HRok.out _).mono ?_; rintro e1 v1 ⟨A1, c1, rfl, ho1, hb1⟩; have hS1 := keep6 (by assumption) hb1; have ho1 := Lib.hid ho1; have hb1 := Lib.hid hb1)
      | (go_at_call_of 29 (Value.agg #[.int .i64 O.log, .int .i64 O.pages, .int .u32 O.epoch]); refine (root_Bytes O HOok.out _).mono ?_; rintro e2 v2 ⟨A2, c2, rfl, ho2, hb2⟩; have hS2 := keep6 (by assumption) hb2; have ho2 := Lib.hid ho2; have hb2 := Lib.hid hb2))
    all_goals
      go_wp2_with fail
      go_meet
      first
      | (obtain ⟨gx, gy, rfl, rfl, p1, p2, p3, p4⟩ := two_rows (w := W2.drew) ho1.out hb1.out ho2.out hb2.out
         exact ⟨gx, c1, gy, c2, rfl, rfl, ⟨p1, p2, p3⟩, below_of_drew p4⟩)
      | (obtain ⟨gx, gy, rfl, rfl, p1, p2, p3, p4⟩ := two_rows (w := W2.drew) ho2.out hb2.out ho1.out hb1.out
         exact ⟨gy, c1, gx, c2, rfl, rfl, ⟨p2, p1, p3.symm⟩, below_of_drew p4⟩)
  case rest =>
    obtain ⟨gx, cx, gy, cy, rfl, rfl, HXY, HB⟩ := hcut
    obtain ⟨w3, hw3⟩ : ∃ w3, w3 = wc := ⟨_, rfl⟩
    rw [← hw3] at HXY HB ⊢
    clear hw3
    have HR3 : Hid (w3.heap[W.heap.size]? = some (.cells R.cells 65)) := (HB.out.block _ (blk_lt HR2.out)).trans HR2.out
    have HO3 : Hid (w3.heap[W.heap.size + 1]? = some (.cells O.cells 65)) := (HB.out.block _ (blk_lt HO2.out)).trans HO2.out
    have HB3 : Hid (Below W.heap.size W w3) := below_trans' HB2.out HB2.out.size HB.out
    have HX3 := Lib.hid HXY.out.1
    have HY3 := Lib.hid HXY.out.2.1
    have HXU : Hid (unroot (rootBytes R) = some R) := unroot_bytes R (by have := HRr.out; omega) (by have := HRr.out; omega) HRok.out
    have HOU : Hid (unroot (rootBytes O) = some O) := unroot_bytes O (by have := HRr.out; omega) (by have := HRr.out; omega) HOok.out
    have HW3 : W.heap.size + 1 < w3.heap.size := blk_lt HO3.out
    clear HR2 HO2 HB2 HB HZ2 HXY
    go_wp2_with fail
    refine (root_Read w3 (some ⟨gx, 0, none⟩) 64 cx (rootBytes R) (rootBytes_length R) (own_cap HX3.out) (by decide) (own_rd HX3.out)).mono ?_
    rintro e4 w4 ⟨rfl, hb4⟩
    rw [HXU.out]
    unfold Rt.opt Rt.val
    simp only [Option.getD_some, Option.isSome_some]
    have HR4 : Hid (w4.heap[W.heap.size]? = some (.cells R.cells 65)) := (hb4.block _ (by omega)).trans HR3.out
    have HO4 : Hid (w4.heap[W.heap.size + 1]? = some (.cells O.cells 65)) := (hb4.block _ (by omega)).trans HO3.out
    have HX4 := Lib.hid (own_below HX3.out hb4)
    have HY4 := Lib.hid (own_below HY3.out hb4)
    have HB4 : Hid (Below W.heap.size W w4) := below_trans' HB3.out HB3.out.size hb4
    have HW4 : W.heap.size + 1 < w4.heap.size := blk_lt HO4.out
    clear HR3 HO3 HX3 HY3 HB3 HW3 hb4
    go_upto_region 6 with fail
    obtain ⟨w5, hw5⟩ : ∃ w5, w5 = w4.alloc (.cells #[.int .i64 R.log, .int .i64 R.pages, .int .u32 R.epoch] 65) := ⟨_, rfl⟩
    rw [← hw5]
    have HR5 : Hid (w5.heap[W.heap.size]? = some (.cells R.cells 65)) := by rw [hw5]; exact blk_alloc HR4.out _
    have HO5 : Hid (w5.heap[W.heap.size + 1]? = some (.cells O.cells 65)) := by rw [hw5]; exact blk_alloc HO4.out _
    have HQ5 : Hid (w5.heap[w4.heap.size]? = some (.cells R.cells 65)) := by rw [hw5]; exact heap_alloc_new w4 _
    have hb5 : Below w4.heap.size w4 w5 := by rw [hw5]; exact (Below.refl _ _).alloc (Nat.le_refl _) _
    have HX5 := Lib.hid (own_below HX4.out hb5)
    have HY5 := Lib.hid (own_below HY4.out hb5)
    have HB5 : Hid (Below W.heap.size W w5) := below_trans' HB4.out HB4.out.size hb5
    have HW5 : W.heap.size + 1 < w5.heap.size := blk_lt HO5.out
    obtain ⟨q, hq⟩ : ∃ q, q = w4.heap.size := ⟨_, rfl⟩
    rw [← hq] at HQ5 HW4 ⊢
    have HQW : q < w5.heap.size := blk_lt HQ5.out
    clear hw5 HR4 HO4 HX4 HY4 HB4 hb5 hq
    obtain ⟨r0, r1, r2, rf0, rf1, rf2⟩ := rt_block HR5.out
    obtain ⟨q0, q1, q2, qf0, qf1, qf2⟩ := rt_block HQ5.out
    have hl0 : Hid ((bcells (rootBytes R)).length = 64 * 1) := by show _ = _; rw [bcells_length, rootBytes_length]
    have hrd : Hid (Rd (w5.alloc (.cells #[] 5)) (some ⟨gx, 0, none⟩) (bcells (rootBytes R))) := (own_rd HX5.out).below ((Below.refl _ _).alloc (Nat.le_refl _) _)
    have h0' := Lib.hid (own_nilrow w5 5 1)
    go_wp2_with (first
      | (at_builtin; refine ev_appendR w5.heap.size rfl (.tmp 70) (.tmp 71) 66 5 _ 1 1 rfl Try.underlying66 infoByte rfl (by decide) (by decide) _ 0 [] (some ⟨gx, 0, none⟩) 64 cx (bcells (rootBytes R)) rfl rfl hl0.out hrd.out (bcells_one _) h0'.out (by simp) (by decide) ?_)
      | go_in)
    intro A6 c6 w6 ho6 hg6 _
    have hb6 : Below w5.heap.size w5 w6 := Below.grown (Below.alloc (Below.refl w5.heap.size w5) (Nat.le_refl _) (.cells #[] 5)) hg6 (by simp) (fun k hk => by
      have : w5.heap.size = k := by simpa [Value.ownBlock] using hk
      omega)
    obtain ⟨gz, rfl, hz1, hz2⟩ := own_some ho6 (by decide)
    have HR6 : Hid (w6.heap[W.heap.size]? = some (.cells R.cells 65)) := (hb6.block _ (by omega)).trans HR5.out
    have HO6 : Hid (w6.heap[W.heap.size + 1]? = some (.cells O.cells 65)) := (hb6.block _ (by omega)).trans HO5.out
    have HX6 := Lib.hid (own_below HX5.out hb6)
    have HY6 := Lib.hid (own_below HY5.out hb6)
    have HB6 : Hid (Below W.heap.size W w6) := below_trans' HB5.out HB5.out.size hb6
    have HZ6 := Lib.hid ho6
    have HGX : Hid (gx < w5.heap.size ∧ gy < w5.heap.size) := ⟨(HX5.out.lt gx rfl).2, (HY5.out.lt gy rfl).2⟩
    have HW6 : W.heap.size + 1 < w6.heap.size := blk_lt HO6.out
    clear ho6 hg6 hb6 HR5 HO5 HX5 HY5 HB5 HQ5 hrd h0' r0 r1 r2 rf0 rf1 rf2 q0 q1 q2 qf0 qf1 qf2 HQW HW4
    -- the place that is turned
    obtain ⟨p, hp, hp1, hp2⟩ : ∃ p : Nat, (at_.tmod 20 + 20).tmod 20 = (p : Int) ∧ p < 20 ∧ 0 ≤ (p : Int) := by
      have h1 := Int.tmod_lt_of_pos at_ (show (0 : Int) < 20 by decide)
      have h2 := Int.lt_tmod_of_pos at_ (show (0 : Int) < 20 by decide)
      refine ⟨((at_.tmod 20 + 20).tmod 20).toNat, ?_, ?_, ?_⟩
      · rw [Int.tmod_eq_emod_of_nonneg (by omega)]; omega
      · rw [Int.tmod_eq_emod_of_nonneg (by omega)]; omega
      · omega
    have ht1 := Int.tmod_lt_of_pos at_ (show (0 : Int) < 20 by decide)
    have ht2 := Int.lt_tmod_of_pos at_ (show (0 : Int) < 20 by decide)
    obtain ⟨xb, hxb⟩ : ∃ xb, (rootBytes R)[p]? = some xb := ⟨_, List.getElem?_eq_getElem (by rw [rootBytes_length]; omega)⟩
    have hc := own_cell HZ6.out p (.int .u8 (xb.toNat : Int)) (by rw [bcells_get, hxb]; rfl)
    have hf := own_free HZ6.out p
    go_wp2_with fail
    obtain ⟨b', hb'⟩ := byte_bits .xor (xb.toNat : Int) (bits BinOp.or IntKind.u8 tn 1)
    have hne : Hid ((rootBytes R).set p b' ≠ rootBytes R) := fun e => by
      have h1 : ((rootBytes R).set p b')[p]? = some b' := by rw [List.getElem?_set, if_pos rfl, if_pos (by rw [rootBytes_length]; omega)]
      rw [e, hxb] at h1
      injection h1 with h1
      have := turn_ne (xb.toNat : Int) tn (by omega) (byte_lt xb)
      rw [hb', h1] at this
      exact this rfl
    have HZU : Hid (unroot ((rootBytes R).set p b') = none) := turned_none R p hp1 b' hne.out
    rw [hb']
    obtain ⟨w7, hw7⟩ : ∃ w7, w7 = w6.setCell ⟨gz, p, none⟩ (.int .u8 (b'.toNat : Int)) := ⟨_, rfl⟩
    rw [← hw7]
    have hg := HGX.out
    have hB7 : BackAt w7 w6.heap.size W.heap.size (W.heap.size + 1) gx cx gy cy gz c6 R O ((rootBytes R).set p b') := by
      rw [hw7]
      refine ⟨by rw [Below.heap_setCell _ _ _ _ (by show W.heap.size ≠ gz; omega)]; exact HR6.out, by rw [Below.heap_setCell _ _ _ _ (by show W.heap.size + 1 ≠ gz; omega)]; exact HO6.out, own_other (own_base HX6.out (Nat.zero_le _)) (by simp only [Value.ownBlock]; intro e; injection e with e; omega) _, own_other (own_base HY6.out (Nat.zero_le _)) (by simp only [Value.ownBlock]; intro e; injection e with e; omega) _, ?_, ⟨by omega, by omega, (HX6.out.lt gx rfl).2, (HY6.out.lt gy rfl).2, hz2⟩⟩
      rw [← bcells_set]
      exact own_set (own_base HZ6.out (Nat.zero_le _)) p (by omega) _
    have hs7 : w6.heap.size ≤ w7.heap.size := by rw [hw7]; simp [World.setCell]
    have HB7 : Hid (Below W.heap.size W w7) := by rw [hw7]; exact HB6.out.setCell (by show W.heap.size ≤ gz; omega) _
    obtain ⟨b0, hb0⟩ : ∃ b0, b0 = w6.heap.size := ⟨_, rfl⟩
    rw [← hb0] at hB7 hs7
    obtain ⟨zz, hzz⟩ : ∃ zz, zz = (rootBytes R).set p b' := ⟨_, rfl⟩
    rw [← hzz] at hB7 HZU
    have HZL : Hid (zz.length = 64) := by show _ = _; rw [hzz, List.length_set, rootBytes_length]
    have H7 := Lib.hid hB7
    clear hw7 hB7 hzz hg hne hb' HR6 HO6 HX6 HY6 HB6 HZ6 HGX HW6 HW5 hz1 hz2 hp hp1 hp2 ht1 ht2 hxb hc hf hb0
    refine (root_Read w7 (some ⟨gz, 0, none⟩) 64 c6 zz HZL.out (own_cap H7.out.hz) (by decide) (own_rd H7.out.hz)).mono ?_
    rintro e8 w8 ⟨rfl, hb8⟩
    rw [HZU.out]
    unfold Rt.opt Rt.val Rt.zero
    simp only [Option.getD_none, Option.isSome_none]
    have hs8 := hb8.size
    have H8 := Lib.hid (H7.out.below hb8 hs7)
    have HB8 : Hid (Below W.heap.size W w8) := below_trans' HB7.out HB7.out.size hb8
    clear H7 HB7 hb8
    go_upto_region 11 with fail
    obtain ⟨w9, hw9⟩ : ∃ w9, w9 = w8.alloc (.cells #[.int .i64 0, .int .i64 0, .int .u32 0] 65) := ⟨_, rfl⟩
    rw [← hw9]
    have hb9 : Below w8.heap.size w8 w9 := by rw [hw9]; exact (Below.refl _ _).alloc (Nat.le_refl _) _
    have hs9 := hb9.size
    have H9 := Lib.hid (H8.out.below hb9 (by omega))
    have HB9 : Hid (Below W.heap.size W w9) := below_trans' HB8.out HB8.out.size hb9
    clear hw9 H8 HB8 hb9
    go_wp2_with fail
    refine (disk_New w9 30 (by decide) (by decide)).mono ?_
    rintro e10 w10 ⟨d, S, rfl, hd10, hS10, hb10⟩
    have hs10 := hb10.size
    have H10 := Lib.hid (H9.out.below hb10 (by omega))
    have HB10 : Hid (Below W.heap.size W w10) := below_trans' HB9.out HB9.out.size hb10
    have HD10 : Hid (DkAt w10 S d ⟨zeros 1920, []⟩) := hd10
    have HS10 : Hid (∀ i, S i → b0 ≤ i) := fun i hi => by have := hS10 i hi; omega
    have hlen : Hid ((Dk.mk (zeros 1920) []).len = 30) := by show _ = _; unfold Dk.len zeros; simp
    have HWb : Hid (W.heap.size ≤ b0) := by have := H10.out.lt; show _ ≤ _; omega
    clear hd10 hS10 hb10 H9 HB9
    obtain ⟨k, hk⟩ : ∃ k, k = v1 := ⟨_, rfl⟩
    have hk01 : Hid (k = 0 ∨ k = 1) := by show _ ∨ _; omega
    go_wp2_with fail
    refine (disk_Write HD10.out v1 (some ⟨gx, 0, none⟩) 64 cx (rootBytes R) (rootBytes_length R) (by decide) (own_rd H10.out.hx)).mono ?_
    rintro e11 w11 ⟨rfl, S11, hd11, hS11, hk11⟩
    have hs11 := hk11.size
    have HS11 : Hid (∀ i, S11 i → b0 ≤ i) := fun i hi => by
      rcases hS11 i hi with h | h
      · exact HS10.out i h
      · omega
    have H11 := Lib.hid (H10.out.keeps hk11 (by omega) HS10.out)
    have HB11 : Hid (Below W.heap.size W w11) := HB10.out.trans (hk11.below HB10.out.size (fun i hi => by have := HS10.out i hi; have := HWb.out; omega))
    have HD11 := Lib.hid hd11
    clear hd11 hS11 hk11 H10 HB10
    go_wp2_with fail
    refine (disk_Write HD11.out (1 - v1) (some ⟨gy, 0, none⟩) 64 cy (rootBytes O) (rootBytes_length O) (by decide) (own_rd H11.out.hy)).mono ?_
    rintro e12 w12 ⟨rfl, S12, hd12, hS12, hk12⟩
    have hs12 := hk12.size
    have HS12 : Hid (∀ i, S12 i → b0 ≤ i) := fun i hi => by
      rcases hS12 i hi with h | h
      · exact HS11.out i h
      · omega
    have H12 := Lib.hid (H11.out.keeps hk12 (by omega) HS11.out)
    have HB12 : Hid (Below W.heap.size W w12) := HB11.out.trans (hk12.below HB11.out.size (fun i hi => by have := HS11.out i hi; have := HWb.out; omega))
    have HD12 := Lib.hid hd12
    clear hd12 hS12 hk12 H11 HB11 HD11 HD10
    rw [← hk] at HD12
    have hl12 : ((((Dk.mk (zeros 1920) []).write k (rootBytes R)).write (1 - k) (rootBytes O))).len = 30 := by rw [len_write, len_write]; exact hlen.out
    have hbest := Lib.hid (back_best (z := zz) hk01.out hlen.out (rootBytes_length R) (rootBytes_length O) HZL.out HXU.out HOU.out HZU.out ((rightB_iff _ _).2 (by have := HRr.out; omega)) ((rightB_iff _ _).2 (by have := HRr.out; omega)) (by have := HRr.out; omega) (by have := HRr.out; omega))
    have hl12 := Lib.hid hl12
    go_wp2_with fail
    refine (root_Best HD12.out).mono ?_
    rintro e13 w13 ⟨rfl, hb13⟩
    rw [hl12.out, hbest.out.1]
    have hdo : decide (0 < O.epoch) = true := decide_eq_true (by have := HRr.out; omega)
    have hdr : Hid (decide (0 < R.epoch) = true) := decide_eq_true (by have := HRr.out; omega)
    rw [hdo]
    unfold Rt.val
    have hs13 := hb13.size
    have H13 := Lib.hid (H12.out.below hb13 (by omega))
    have HB13 : Hid (Below W.heap.size W w13) := below_trans' HB12.out HB12.out.size hb13
    have hlt13 : Hid (∀ i, S12 i → i < w13.heap.size) := fun i hi => by have := HD12.out.lt i hi; omega
    have HD13 := Lib.hid (HD12.out.below hb13)
    clear hdo hb13 H12 HB12 HD12
    go_upto_region 18 with fail
    obtain ⟨w14, hw14⟩ : ∃ w14, w14 = w13.alloc (.cells #[.int .i64 O.log, .int .i64 O.pages, .int .u32 O.epoch] 65) := ⟨_, rfl⟩
    rw [← hw14]
    have hb14 : Below w13.heap.size w13 w14 := by rw [hw14]; exact (Below.refl _ _).alloc (Nat.le_refl _) _
    have hs14 := hb14.size
    have H14 := Lib.hid (H13.out.below hb14 (by omega))
    have HB14 : Hid (Below W.heap.size W w14) := below_trans' HB13.out HB13.out.size hb14
    have HD14 := Lib.hid (HD13.out.below hb14)
    have HT14 : Hid (w14.heap[w13.heap.size]? = some (.cells O.cells 65)) := by rw [hw14]; exact heap_alloc_new w13 _
    obtain ⟨tb, htb⟩ : ∃ tb, tb = w13.heap.size := ⟨_, rfl⟩
    rw [← htb] at HT14 hlt13 ⊢
    clear hw14 hb14 H13 HB13 HD13 htb
    go_wp2_with fail
    refine (disk_Write HD14.out (1 - v1) (some ⟨gz, 0, none⟩) 64 c6 zz HZL.out (by decide) (own_rd H14.out.hz)).mono ?_
    rintro e15 w15 ⟨rfl, S15, hd15, hS15, hk15⟩
    have hs15 := hk15.size
    have H15 := Lib.hid (H14.out.keeps hk15 (by omega) HS12.out)
    have HB15 : Hid (Below W.heap.size W w15) := HB14.out.trans (hk15.below HB14.out.size (fun i hi => by have := HS12.out i hi; have := HWb.out; omega))
    have HT15 : Hid (w15.heap[tb]? = some (.cells O.cells 65)) := (hk15.block tb (blk_lt HT14.out) (fun hs => by have := hlt13.out tb hs; omega)).trans HT14.out
    have HD15 := Lib.hid hd15
    clear hd15 hS15 hk15 H14 HB14 HD14 HT14
    rw [← hk] at HD15
    have hl15 : (((((Dk.mk (zeros 1920) []).write k (rootBytes R)).write (1 - k) (rootBytes O)).write (1 - k) zz)).len = 30 := by rw [len_write]; exact hl12.out
    have hl15 := Lib.hid hl15
    go_wp2_with fail
    refine (root_Best HD15.out).mono ?_
    rintro e16 w16 ⟨rfl, hb16⟩
    rw [hl15.out, hbest.out.2, hdr.out]
    unfold Rt.val
    have hs16 := hb16.size
    have H16 := Lib.hid (H15.out.below hb16 (by omega))
    have HB16 : Hid (Below W.heap.size W w16) := below_trans' HB15.out HB15.out.size hb16
    have HT16 : Hid (w16.heap[tb]? = some (.cells O.cells 65)) := (hb16.block tb (blk_lt HT15.out)).trans HT15.out
    clear hb16 H15 HB15 HD15 HT15
    go_upto_region 20 with fail
    obtain ⟨w17, hw17⟩ : ∃ w17, w17 = w16.alloc (.cells #[.int .i64 R.log, .int .i64 R.pages, .int .u32 R.epoch] 65) := ⟨_, rfl⟩
    rw [← hw17]
    have hb17 : Below w16.heap.size w16 w17 := by rw [hw17]; exact (Below.refl _ _).alloc (Nat.le_refl _) _
    have H17 := Lib.hid (H16.out.below hb17 (by omega))
    have HB17 : Hid (Below W.heap.size W w17) := below_trans' HB16.out HB16.out.size hb17
    have HT17 : Hid (w17.heap[tb]? = some (.cells O.cells 65)) := (hb17.block tb (blk_lt HT16.out)).trans HT16.out
    have HU17 : Hid (w17.heap[w16.heap.size]? = some (.cells R.cells 65)) := by rw [hw17]; exact heap_alloc_new w16 _
    clear hw17 hb17 H16 HB16 HT16
    obtain ⟨r0, r1, r2, _, _, _⟩ := rt_block H17.out.hr
    obtain ⟨o0, o1, o2, _, _, _⟩ := rt_block H17.out.ho
    obtain ⟨t0, t1, t2, _, _, _⟩ := rt_block HT17.out
    obtain ⟨u0, u1, u2, _, _, _⟩ := rt_block HU17.out
    go_wp2_with fail
    refine (law_known _).mono ?_
    rintro e18 w18 ⟨rfl, hb18⟩
    have HB18 : Hid (Below W.heap.size W w18) := below_trans' HB17.out HB17.out.size hb18
    clear hb18 r0 r1 r2 o0 o1 o2 t0 t1 t2 u0 u1 u2
    go_wp2
    go_ret
    exact ⟨rfl, HB18.out⟩
end Go.Proofs.Ytdbhhnphpjdmbaa
