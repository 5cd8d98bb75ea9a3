/- The law RootTells: its walk. -/
import Derived.Test.YtdbhhnphpjdmbaaRootKnown
import Derived.Test.YtdbhhnphpjdmbaaBook
import Derived.Test.YtdbhhnphpjdmbaaRow
import Derived.Deep.DeepCutAuto
namespace Go.Proofs.Ytdbhhnphpjdmbaa
open Go.RowKit
set_option maxRecDepth 100000
set_option linter.unusedVariables false
set_option linter.unusedSimpArgs false
theorem bytes_of_ints (xs : List Int) (hw : ∀ x ∈ xs, (Lit.int .u8 x).wf = true) : ∃ bs : List UInt8, xs.map (Value.int .u8) = bcells bs ∧ bs.length = xs.length := by
  refine ⟨xs.map b8, ?_, by simp⟩
  unfold bcells
  rw [List.map_map]
  apply List.map_congr_left
  intro x hx
  have h := hw x hx
  simp [Lit.wf, IntKind.min, IntKind.max, IntKind.signed, IntKind.bits] at h
  show Value.int .u8 x = Value.int .u8 ((b8 x).toNat : Int)
  rw [b8_toNat]
  congr 1
  omega
theorem below_of_drew {w v : World} (h : Below w.drew.heap.size w.drew v) : Below w.heap.size w v := ⟨h.os, h.tape, h.output, h.size, h.block⟩
theorem two_rows {w v1 v2 : World} {A1 A2 : Option Addr} {c1 c2 : Nat} {x y : List Value} (ho1 : v1.ownsRow w.heap.size 5 1 (.slice A1 64 c1) 64 x) (hb1 : Below w.heap.size w v1) (ho2 : v2.ownsRow v1.heap.size 5 1 (.slice A2 64 c2) 64 y) (hb2 : Below v1.heap.size v1 v2) :
    ∃ gx gy, A1 = some ⟨gx, 0, none⟩ ∧ A2 = some ⟨gy, 0, none⟩ ∧ v2.ownsRow w.heap.size 5 1 (.slice (some ⟨gx, 0, none⟩) 64 c1) 64 x ∧ v2.ownsRow w.heap.size 5 1 (.slice (some ⟨gy, 0, none⟩) 64 c2) 64 y ∧ gx ≠ gy ∧ Below w.heap.size w v2 := by
  obtain ⟨gx, rfl, h1, h2⟩ := own_some ho1 (by decide)
  obtain ⟨gy, rfl, h3, h4⟩ := own_some ho2 (by decide)
  exact ⟨gx, gy, rfl, rfl, own_below ho1 hb2, own_base ho2 hb1.size, by omega, below_trans' hb1 hb1.size hb2⟩
theorem keep6 {w w' : World} {a b : Nat} {x y z u v t : Value} (h : (w.cell? ⟨a, 0, none⟩ = some x ∧ w.cell? ⟨a, 1, none⟩ = some y ∧ w.cell? ⟨a, 2, none⟩ = some z) ∧ (w.cell? ⟨b, 0, none⟩ = some u ∧ w.cell? ⟨b, 1, none⟩ = some v ∧ w.cell? ⟨b, 2, none⟩ = some t)) (hb : Below w.heap.size w w') :
    (w'.cell? ⟨a, 0, none⟩ = some x ∧ w'.cell? ⟨a, 1, none⟩ = some y ∧ w'.cell? ⟨a, 2, none⟩ = some z) ∧ (w'.cell? ⟨b, 0, none⟩ = some u ∧ w'.cell? ⟨b, 1, none⟩ = some v ∧ w'.cell? ⟨b, 2, none⟩ = some t) := by
  obtain ⟨⟨h1, h2, h3⟩, h4, h5, h6⟩ := h
  exact ⟨⟨(hb.cell (cell_blk h1)).trans h1, (hb.cell (cell_blk h2)).trans h2, (hb.cell (cell_blk h3)).trans h3⟩, (hb.cell (cell_blk h4)).trans h4, (hb.cell (cell_blk h5)).trans h5, (hb.cell (cell_blk h6)).trans h6⟩
def Cells3 (w : World) (a : Nat) (x y z : Value) : Prop := w.cell? ⟨a, 0, none⟩ = some x ∧ w.cell? ⟨a, 1, none⟩ = some y ∧ w.cell? ⟨a, 2, none⟩ = some z
theorem Cells3.below {w w' : World} {a : Nat} {x y z : Value} (h : Cells3 w a x y z) (hb : Below w.heap.size w w') : Cells3 w' a x y z := by
  obtain ⟨h1, h2, h3⟩ := h
  exact ⟨(hb.cell (cell_blk h1)).trans h1, (hb.cell (cell_blk h2)).trans h2, (hb.cell (cell_blk h3)).trans h3⟩
theorem keep9 {w0 w w' : World} {a b c : Nat} {x y z u v t p q s : Value} (h : (Cells3 w a x y z ∧ Cells3 w b u v t ∧ Cells3 w c p q s) ∧ Below w0.heap.size w0 w) (hb : Below w.heap.size w w') : (Cells3 w' a x y z ∧ Cells3 w' b u v t ∧ Cells3 w' c p q s) ∧ Below w0.heap.size w0 w' :=
  ⟨⟨h.1.1.below hb, h.1.2.1.below hb, h.1.2.2.below hb⟩, below_trans' h.2 h.2.size hb⟩
theorem rt_cells {w : World} {b : Nat} {r : Rt} (h : w.heap[b]? = some (.cells r.cells 65)) : Cells3 w b (.int .i64 r.log) (.int .i64 r.pages) (.int .u32 r.epoch) := by
  obtain ⟨a0, a1, a2, _⟩ := rt_block h
  exact ⟨a0, a1, a2⟩
set_option maxHeartbeats 8000000 in
theorem RootTells_walk (W : World) (r : Rt) (hr : r.ok) (wl : (Lit.int .i64 r.log).wf = true) (wp : (Lit.int .i64 r.pages).wf = true) (o : Rt) (ho : o.ok) (ol : (Lit.int .i64 o.log).wf = true) (op : (Lit.int .i64 o.pages).wf = true) (s : Int) (ws : (Lit.int .i64 s).wf = true) (p : Int) (wpp : (Lit.int .i64 p).wf = true)
    (A : Option Addr) (c : Nat) (xs : List Int) (hc : xs.length ≤ c) (hm : c ≤ maxLen) (hb : xs.length * 1 ≤ 140737488351232) (hrd : Rd W A (xs.map (Value.int .u8))) (hw : ∀ x ∈ xs, (Lit.int .u8 x).wf = true)
    (at_ : Int) (wa : (Lit.int .i64 at_).wf = true) (tn : Int) (wt : (Lit.int .u8 tn).wf = true) :
    Calls Try.prog 9 #[r.val, o.val, .int .i64 s, .int .i64 p, .slice A xs.length c, .int .i64 at_, .int .u8 tn] W fun e w' => e = .returned (.bool true) ∧ Below W.heap.size W w' := by
  obtain ⟨bs, hbs, hbl⟩ := bytes_of_ints xs hw
  rw [hbs] at hrd
  have hs : s ≤ 9223372036854775807 := by
    simp [Lit.wf, IntKind.min, IntKind.max, IntKind.signed, IntKind.bits] at ws
    omega
  obtain ⟨n, hn⟩ : ∃ n, n = xs.length := ⟨_, rfl⟩
  rw [← hn] at hc hb hbl ⊢
  have HR := Lib.hid hr
  have HO := Lib.hid ho
  have HRD := Lib.hid hrd
  have HBL := Lib.hid hbl
  have hcells := Lib.hid (lit_rd W [.int .i64 r.log, .int .i64 r.pages, .int .u32 r.epoch] 65)
  clear hr ho wl wp ol op ws wpp hrd hw wa wt hbs hbl hn
  unfold Rt.val
  go_enter Try.func9, Try.ntmps9
  go_upto_region 1 with fail
  obtain ⟨W2, hW2⟩ : ∃ W2, W2 = (W.alloc (.cells #[.int .i64 r.log, .int .i64 r.pages, .int .u32 r.epoch] 65)).alloc (.cells #[.int .i64 o.log, .int .i64 o.pages, .int .u32 o.epoch] 65) := ⟨_, rfl⟩
  rw [← hW2]
  have HZ2 : Hid (W2.heap.size = W.heap.size + 2) := by show _ = _; rw [hW2, World.size_alloc, World.size_alloc]
  have HR2 : Hid (W2.heap[W.heap.size]? = some (.cells r.cells 65)) := by rw [hW2]; exact blk_alloc (heap_alloc_new W _) _
  have HO2 : Hid (W2.heap[W.heap.size + 1]? = some (.cells o.cells 65)) := by
    have h := heap_alloc_new (W.alloc (.cells #[.int .i64 r.log, .int .i64 r.pages, .int .u32 r.epoch] 65)) (.cells #[.int .i64 o.log, .int .i64 o.pages, .int .u32 o.epoch] 65)
    rw [World.size_alloc] at h
    rw [hW2]
    exact h
  have HB2 : Hid (Below W.heap.size W W2) := by rw [hW2]; exact ((Below.refl _ _).alloc (Nat.le_refl _) _).alloc (by rw [World.size_alloc]; omega) _
  clear hW2 hcells
  go_cut [15] (fun s15 wx => ∃ k : Rt, s15 = .pointer (some ⟨W2.heap.size, 0, none⟩) ∧ Hid (k.ok ∧ 1 ≤ k.log ∧ k.log ≤ 8 ∧ 1 ≤ k.pages ∧ k.pages ≤ 8) ∧ Hid (wx.heap[W2.heap.size]? = some (.cells k.cells 65)) ∧ Hid (Below W2.heap.size W2 wx))
  case first =>
    obtain ⟨r0, r1, r2, rf0, rf1, rf2⟩ := rt_block HR2.out
    have hne : W.heap.size < W2.heap.size := by rw [HZ2.out]; omega
    go_region_held3 (fun w' => w'.cell? ⟨W.heap.size, 0, none⟩ = some (.int .i64 r.log) ∧ w'.cell? ⟨W.heap.size, 1, none⟩ = some (.int .i64 r.pages) ∧ w'.cell? ⟨W.heap.size, 2, none⟩ = some (.int .u32 r.epoch)) (go_keep) (first
      | (go_at_call_of 28 (Value.int .i64 r.log); refine (book_Within r.log 1 8 _ (by decide) (by decide) (by decide)).mono ?_; rintro e1 w1 ⟨m1, rfl, a1, b1, rfl⟩)
      | (go_at_call_of 28 (Value.int .i64 r.pages); refine (book_Within r.pages 1 8 _ (by decide) (by decide) (by decide)).mono ?_; rintro e2 w2 ⟨m2, rfl, a2, b2, rfl⟩))
    all_goals
      go_wp2_with fail
      go_meet
      exact ⟨⟨m1, m2, r.epoch⟩, rfl, ⟨HR.out, a1, b1, a2, b2⟩, heap_alloc_new W2 _, below_drewN' ((Below.refl _ _).alloc (Nat.le_refl _) _) 1⟩
  case rest =>
    obtain ⟨k, rfl, Hk, HK, HB⟩ := hcut
    obtain ⟨w1, hw1⟩ : ∃ w1, w1 = wc := ⟨_, rfl⟩
    rw [← hw1] at HK HB ⊢
    clear hw1
    have HZ1 : W2.heap.size < w1.heap.size := blk_lt HK.out
    have HR1 : Hid (w1.heap[W.heap.size]? = some (.cells r.cells 65)) := (HB.out.block _ (by rw [HZ2.out]; omega)).trans HR2.out
    have HO1 : Hid (w1.heap[W.heap.size + 1]? = some (.cells o.cells 65)) := (HB.out.block _ (by rw [HZ2.out]; omega)).trans HO2.out
    have HB1 : Hid (Below W.heap.size W w1) := below_trans' HB2.out (by rw [HZ2.out]; omega) HB.out
    obtain ⟨kb, hkb⟩ : ∃ kb, kb = W2.heap.size := ⟨_, rfl⟩
    rw [← hkb] at HK HZ1 ⊢
    have HKB : Hid (W.heap.size + 1 < kb) := by show _ < _; rw [hkb, HZ2.out]; omega
    clear HR2 HO2 HB2 HB HZ2 hkb
    go_upto_region 2 with fail
    go_cut [16] (fun s16 wx => ∃ j : Rt, s16 = .pointer (some ⟨w1.heap.size, 0, none⟩) ∧ Hid (j.ok ∧ 1 ≤ j.log ∧ j.log ≤ 8 ∧ 1 ≤ j.pages ∧ j.pages ≤ 8) ∧ Hid (wx.heap[w1.heap.size]? = some (.cells j.cells 65)) ∧ Hid (Below w1.heap.size w1 wx))
    case first =>
      obtain ⟨r0, r1, r2, rf0, rf1, rf2⟩ := rt_block HO1.out
      have hne : W.heap.size + 1 < w1.heap.size := blk_lt HO1.out
      go_region_held3 (fun w' => w'.cell? ⟨W.heap.size + 1, 0, none⟩ = some (.int .i64 o.log) ∧ w'.cell? ⟨W.heap.size + 1, 1, none⟩ = some (.int .i64 o.pages) ∧ w'.cell? ⟨W.heap.size + 1, 2, none⟩ = some (.int .u32 o.epoch)) (go_keep) (first
        | (go_at_call_of 28 (Value.int .i64 o.log); refine (book_Within o.log 1 8 _ (by decide) (by decide) (by decide)).mono ?_; rintro e1 w1 ⟨m1, rfl, a1, b1, rfl⟩)
        | (go_at_call_of 28 (Value.int .i64 o.pages); refine (book_Within o.pages 1 8 _ (by decide) (by decide) (by decide)).mono ?_; rintro e2 w2 ⟨m2, rfl, a2, b2, rfl⟩))
      all_goals
        go_wp2_with fail
        go_meet
        exact ⟨⟨m1, m2, o.epoch⟩, rfl, ⟨HO.out, a1, b1, a2, b2⟩, heap_alloc_new w1 _, below_drewN' ((Below.refl _ _).alloc (Nat.le_refl _) _) 1⟩
    case rest =>
      obtain ⟨j, rfl, Hj, HJ, HB⟩ := hcut
      obtain ⟨w2, hw2⟩ : ∃ w2, w2 = wc := ⟨_, rfl⟩
      rw [← hw2] at HJ HB ⊢
      clear hw2
      have HZ2 : w1.heap.size < w2.heap.size := blk_lt HJ.out
      have HR2 : Hid (w2.heap[W.heap.size]? = some (.cells r.cells 65)) := (HB.out.block _ (blk_lt HR1.out)).trans HR1.out
      have HK2 : Hid (w2.heap[kb]? = some (.cells k.cells 65)) := (HB.out.block _ (blk_lt HK.out)).trans HK.out
      have HB2 : Hid (Below W.heap.size W w2) := below_trans' HB1.out HB1.out.size HB.out
      obtain ⟨jb, hjb⟩ : ∃ jb, jb = w1.heap.size := ⟨_, rfl⟩
      rw [← hjb] at HJ HZ2 HZ1 ⊢
      clear HR1 HO1 HB1 HB HK hjb
      go_upto_region 3 with fail
      go_cut [17, 18] (fun s17 s18 wx => ∃ gx cx gy cy, s17 = .slice (some ⟨gx, 0, none⟩) 64 cx ∧ s18 = .slice (some ⟨gy, 0, none⟩) 64 cy ∧ Hid (wx.ownsRow w2.heap.size 5 1 (.slice (some ⟨gx, 0, none⟩) 64 cx) 64 (bcells (rootBytes k)) ∧ wx.ownsRow w2.heap.size 5 1 (.slice (some ⟨gy, 0, none⟩) 64 cy) 64 (bcells (rootBytes j)) ∧ gx ≠ gy) ∧ Hid (Below w2.heap.size w2 wx))
      case first =>
        have hS0 : (w2.drew.cell? ⟨kb, 0, none⟩ = some (.int .i64 k.log) ∧ w2.drew.cell? ⟨kb, 1, none⟩ = some (.int .i64 k.pages) ∧ w2.drew.cell? ⟨kb, 2, none⟩ = some (.int .u32 k.epoch)) ∧ (w2.drew.cell? ⟨jb, 0, none⟩ = some (.int .i64 j.log) ∧ w2.drew.cell? ⟨jb, 1, none⟩ = some (.int .i64 j.pages) ∧ w2.drew.cell? ⟨jb, 2, none⟩ = some (.int .u32 j.epoch)) := by
          obtain ⟨a0, a1, a2, _⟩ := rt_block HK2.out
          obtain ⟨b0, b1, b2, _⟩ := rt_block HJ.out
          exact ⟨⟨a0, a1, a2⟩, b0, b1, b2⟩
        go_region_held3 (fun w' => (w'.cell? ⟨kb, 0, none⟩ = some (.int .i64 k.log) ∧ w'.cell? ⟨kb, 1, none⟩ = some (.int .i64 k.pages) ∧ w'.cell? ⟨kb, 2, none⟩ = some (.int .u32 k.epoch)) ∧ (w'.cell? ⟨jb, 0, none⟩ = some (.int .i64 j.log) ∧ w'.cell? ⟨jb, 1, none⟩ = some (.int .i64 j.pages) ∧ w'.cell? ⟨jb, 2, none⟩ = some (.int .u32 j.epoch))) (assumption) (first
          | (go_at_call_of 24 (Value.agg #[.int .i64 k.log, .int .i64 k.pages, .int .u32 k.epoch]); refine (ref_Root k Hk.out.1 _).mono ?_; rintro e1 v1 ⟨A1, c1, rfl, ho1, hb1⟩; have hS1 := keep6 (by assumption) hb1; have ho1 := Lib.hid ho1; have hb1 := Lib.hid hb1)
          | (go_at_call_of 24 (Value.agg #[.int .i64 j.log, .int .i64 j.pages, .int .u32 j.epoch]); refine (ref_Root j Hj.out.1 _).mono ?_; rintro e2 v2 ⟨A2, c2, rfl, ho2, hb2⟩; have hS2 := keep6 (by assumption) hb2; have ho2 := Lib.hid ho2; have hb2 := Lib.hid hb2))
        all_goals
          go_wp2_with fail
          go_meet
          first
          | (obtain ⟨gx, gy, rfl, rfl, p1, p2, p3, p4⟩ := two_rows (w := w2.drew) ho1.out hb1.out ho2.out hb2.out
             exact ⟨gx, c1, gy, c2, rfl, rfl, ⟨p1, p2, p3⟩, below_of_drew p4⟩)
          | (obtain ⟨gx, gy, rfl, rfl, p1, p2, p3, p4⟩ := two_rows (w := w2.drew) ho2.out hb2.out ho1.out hb1.out
             exact ⟨gy, c1, gx, c2, rfl, rfl, ⟨p2, p1, p3.symm⟩, below_of_drew p4⟩)
      case rest =>
        obtain ⟨gx, cx, gy, cy, rfl, rfl, HXY, HB⟩ := hcut
        obtain ⟨w3, hw3⟩ : ∃ w3, w3 = wc := ⟨_, rfl⟩
        rw [← hw3] at HXY HB ⊢
        clear hw3
        have HR3 : Hid (w3.heap[W.heap.size]? = some (.cells r.cells 65)) := (HB.out.block _ (blk_lt HR2.out)).trans HR2.out
        have HK3 : Hid (w3.heap[kb]? = some (.cells k.cells 65)) := (HB.out.block _ (blk_lt HK2.out)).trans HK2.out
        have HJ3 : Hid (w3.heap[jb]? = some (.cells j.cells 65)) := (HB.out.block _ (blk_lt HJ.out)).trans HJ.out
        have HB3 : Hid (Below W.heap.size W w3) := below_trans' HB2.out HB2.out.size HB.out
        have hgx := (HXY.out.1.lt gx rfl).1
        have hgy := (HXY.out.2.1.lt gy rfl).1
        obtain ⟨z, hz⟩ : ∃ z, z = w2.heap.size := ⟨_, rfl⟩
        rw [← hz] at hgx hgy HXY HZ2
        have HX3 := Lib.hid HXY.out.1
        have HY3 := Lib.hid HXY.out.2.1
        have HNE := Lib.hid HXY.out.2.2
        have HWZ : W.heap.size < z := by rw [hz]; exact blk_lt HR2.out
        clear HR2 HK2 HJ HB2 HB hz HXY
        go_wp2_with fail
        refine (book_Within at_ 0 63 _ (by decide) (by decide) (by decide)).mono ?_
        rintro e4 w4 ⟨m, rfl, m0, m1, rfl⟩
        obtain ⟨q, rfl⟩ := Int.eq_ofNat_of_zero_le m0
        have hq : q < 64 := by omega
        obtain ⟨yb, hyb⟩ : ∃ yb, (rootBytes j)[q]? = some yb := ⟨_, List.getElem?_eq_getElem (by rw [rootBytes_length]; exact hq)⟩
        have hc := own_cell HY3.out q (.int .u8 (yb.toNat : Int)) (by rw [bcells_get, hyb]; rfl)
        have hf := own_free HY3.out q
        obtain ⟨b', hb'⟩ := byte_bits .xor (yb.toNat : Int) tn
        have hby := byte_lt yb
        have hyb := Lib.hid hyb
        go_wp2_with fail
        obtain ⟨w5, hw5⟩ : ∃ w5, w5 = w3.setCell ⟨gy, q, none⟩ (.int .u8 (b'.toNat : Int)) := ⟨_, rfl⟩
        rw [← hw5]
        have hjg : jb < gy := by omega
        have HB5 : Hid (Below W.heap.size W w5) := by
          rw [hw5]
          exact HB3.out.setCell (by show W.heap.size ≤ gy; omega) _
        have hS0 : (Cells3 w5 W.heap.size (.int .i64 r.log) (.int .i64 r.pages) (.int .u32 r.epoch) ∧ Cells3 w5 kb (.int .i64 k.log) (.int .i64 k.pages) (.int .u32 k.epoch) ∧ Cells3 w5 jb (.int .i64 j.log) (.int .i64 j.pages) (.int .u32 j.epoch)) ∧ Below w5.heap.size w5 w5 := by
          rw [hw5]
          refine ⟨⟨rt_cells (by rw [Below.heap_setCell _ _ _ _ (by show W.heap.size ≠ gy; omega)]; exact HR3.out), rt_cells (by rw [Below.heap_setCell _ _ _ _ (by show kb ≠ gy; omega)]; exact HK3.out), rt_cells (by rw [Below.heap_setCell _ _ _ _ (by show jb ≠ gy; omega)]; exact HJ3.out)⟩, Below.refl _ _⟩
        have hX5 : w5.ownsRow z 5 1 (.slice (some ⟨gx, 0, none⟩) 64 cx) 64 (bcells (rootBytes k)) := by
          rw [hw5]
          exact own_other HX3.out (by simp only [Value.ownBlock]; intro e; injection e with e; exact HNE.out e) _
        have hY5 : w5.ownsRow z 5 1 (.slice (some ⟨gy, 0, none⟩) 64 cy) 64 (bcells ((rootBytes j).set q b')) := by
          rw [hw5, ← bcells_set]
          exact own_set HY3.out q (by omega) _
        have hcx : 64 ≤ cx := own_cap hX5
        have hcy : 64 ≤ cy := own_cap hY5
        obtain ⟨yy, hyy⟩ : ∃ yy, yy = (rootBytes j).set q b' := ⟨_, rfl⟩
        rw [← hyy] at hY5
        have HYL : Hid (yy.length = 64) := by show _ = _; rw [hyy, List.length_set, rootBytes_length]
        have HXf : Hid (∀ w', Below w5.heap.size w5 w' → Rd w' (some ⟨gx, 0, none⟩) (bcells (rootBytes k)) ∧ ∀ ad, some (⟨gx, 0, none⟩ : Addr) = some ad → ad.block < w'.heap.size) := fun w' hb => ⟨(own_rd hX5).below hb, fun ad e => by
          cases e
          exact Nat.lt_of_lt_of_le (hX5.lt gx rfl).2 hb.size⟩
        have HYf : Hid (∀ w', Below w5.heap.size w5 w' → Rd w' (some ⟨gy, 0, none⟩) (bcells yy) ∧ ∀ ad, some (⟨gy, 0, none⟩ : Addr) = some ad → ad.block < w'.heap.size) := fun w' hb => ⟨(own_rd hY5).below hb, fun ad e => by
          cases e
          exact Nat.lt_of_lt_of_le (hY5.lt gy rfl).2 hb.size⟩
        have HBf : Hid (∀ w', Below w5.heap.size w5 w' → Rd w' A (bcells bs)) := fun w' hb => (HRD.out.below HB5.out).below hb
        clear hw5 hc hf hb' hyb hX5 hY5 hyy HR3 HK3 HJ3 HB3 HX3 HY3 hjg hby
        refine (book_Within s 1 24 _ (by decide) (by decide) (by decide)).mono ?_
        rintro e6 w6 ⟨n0, rfl, n1, n2, rfl⟩
        have hn0 : n0 ≤ 9223372036854775807 := by omega
        go_upto_region 6 with fail
        have hSd : (Cells3 w5.drew W.heap.size (.int .i64 r.log) (.int .i64 r.pages) (.int .u32 r.epoch) ∧ Cells3 w5.drew kb (.int .i64 k.log) (.int .i64 k.pages) (.int .u32 k.epoch) ∧ Cells3 w5.drew jb (.int .i64 j.log) (.int .i64 j.pages) (.int .u32 j.epoch)) ∧ Below w5.heap.size w5 w5.drew := ⟨hS0.1, below_drewN' hS0.2 1⟩
        clear hS0
        have hS1 := hSd
        unfold Cells3 at hS1
        have hc0 : n ≤ c := by omega
        have hn47 : n ≤ 140737488355328 := by omega
        go_region_held3 (fun w' => ((w'.cell? ⟨W.heap.size, 0, none⟩ = some (.int .i64 r.log) ∧ w'.cell? ⟨W.heap.size, 1, none⟩ = some (.int .i64 r.pages) ∧ w'.cell? ⟨W.heap.size, 2, none⟩ = some (.int .u32 r.epoch)) ∧ (w'.cell? ⟨kb, 0, none⟩ = some (.int .i64 k.log) ∧ w'.cell? ⟨kb, 1, none⟩ = some (.int .i64 k.pages) ∧ w'.cell? ⟨kb, 2, none⟩ = some (.int .u32 k.epoch)) ∧ (w'.cell? ⟨jb, 0, none⟩ = some (.int .i64 j.log) ∧ w'.cell? ⟨jb, 1, none⟩ = some (.int .i64 j.pages) ∧ w'.cell? ⟨jb, 2, none⟩ = some (.int .u32 j.epoch))) ∧ Below w5.heap.size w5 w') (assumption) (first
          | (go_at_call_of 23 (Value.int .i64 s); ((refine (law_same _ r HR.out s p hs).mono ?_); rintro e20 v20 ⟨rfl, hb20⟩; have hT20 := keep9 (by assumption) hb20; have hU20 := hT20; unfold Cells3 at hU20; clear hb20))
          | (go_at_call 28; refine (book_Within p (-1) 9 _ (by decide) (by decide) (by decide)).mono ?_; rintro e22 v22 ⟨n3, rfl, n4, n5, rfl⟩)
          | (go_at_call_of 23 (Value.int .i64 p); ((refine (law_same _ k Hk.out.1 n0 p hn0).mono ?_); rintro e21 v21 ⟨rfl, hb21⟩; have hT21 := keep9 (by assumption) hb21; have hU21 := hT21; unfold Cells3 at hU21; clear hb21))
          | (go_at_call 23; ((refine (law_same _ k Hk.out.1 n0 n3 hn0).mono ?_); rintro e23 v23 ⟨rfl, hb23⟩; have hT23 := keep9 (by assumption) hb23; have hU23 := hT23; unfold Cells3 at hU23; clear hb23))
          | (go_at_call_of 25 (Value.slice (some ⟨gx, 0, none⟩) 64 cx); ((with_reducible refine (law_reads _ (some ⟨gx, 0, none⟩) 64 cx (rootBytes k) (rootBytes_length k) hcx (by decide) (HXf.out _ (And.right (by assumption))).1).mono ?_); rintro e24 v24 ⟨rfl, hb24⟩; have hT24 := keep9 (by assumption) hb24; have hU24 := hT24; unfold Cells3 at hU24; clear hb24))
          | (go_at_call_of 25 (Value.slice (some ⟨gy, 0, none⟩) 64 cy); ((with_reducible refine (law_reads _ (some ⟨gy, 0, none⟩) 64 cy yy HYL.out hcy (by decide) (HYf.out _ (And.right (by assumption))).1).mono ?_); rintro e25 v25 ⟨rfl, hb25⟩; have hT25 := keep9 (by assumption) hb25; have hU25 := hT25; unfold Cells3 at hU25; clear hb25))
          | (go_at_call_of 25 (Value.slice A n c); ((with_reducible refine (law_reads _ A n c bs HBL.out hc0 hn47 (HBf.out _ (And.right (by assumption)))).mono ?_); rintro e26 v26 ⟨rfl, hb26⟩; have hT26 := keep9 (by assumption) hb26; have hU26 := hT26; unfold Cells3 at hU26; clear hb26))
          | (go_at_call 26; ((with_reducible refine (law_best _ n0 (some ⟨gx, 0, none⟩) (some ⟨gy, 0, none⟩) 64 cx 64 cy (rootBytes k) yy (rootBytes_length k) HYL.out (by decide) (by decide) (HXf.out _ (And.right (by assumption))).1 (HYf.out _ (And.right (by assumption))).1 (HXf.out _ (And.right (by assumption))).2 (HYf.out _ (And.right (by assumption))).2).mono ?_); rintro e27 v27 ⟨rfl, hb27⟩; have hT27 := keep9 (by assumption) hb27; have hU27 := hT27; unfold Cells3 at hU27; clear hb27))
          | (go_at_call 26; ((with_reducible refine (law_best _ n0 (some ⟨gy, 0, none⟩) (some ⟨gx, 0, none⟩) 64 cy 64 cx yy (rootBytes k) HYL.out (rootBytes_length k) (by decide) (by decide) (HYf.out _ (And.right (by assumption))).1 (HXf.out _ (And.right (by assumption))).1 (HYf.out _ (And.right (by assumption))).2 (HXf.out _ (And.right (by assumption))).2).mono ?_); rintro e28 v28 ⟨rfl, hb28⟩; have hT28 := keep9 (by assumption) hb28; have hU28 := hT28; unfold Cells3 at hU28; clear hb28))
          | (go_at_call 24; refine (ref_Root j Hj.out.1 _).mono ?_; rintro e29 v29 ⟨A3, c3, rfl, ho3, hb29⟩; obtain ⟨gz, rfl, _, hgz⟩ := own_some ho3 (by decide); have hZf := Lib.hid (And.intro (own_rd ho3) hgz); clear ho3 hgz; have hT29 := keep9 (by assumption) hb29; have hU29 := hT29; unfold Cells3 at hU29; clear hb29)
          | (go_at_call 26; ((with_reducible refine (law_best _ n0 (some ⟨gz, 0, none⟩) (some ⟨gx, 0, none⟩) 64 c3 64 cx (rootBytes j) (rootBytes k) (rootBytes_length j) (rootBytes_length k) (by decide) (by decide) hZf.out.1 (HXf.out _ (And.right (by assumption))).1 (fun ad e => by cases e; exact hZf.out.2) (HXf.out _ (And.right (by assumption))).2).mono ?_); rintro e30 v30 ⟨rfl, hb30⟩; have hT30 := keep9 (by assumption) hb30; have hU30 := hT30; unfold Cells3 at hU30; clear hb30))
          | (go_at_call 27; ((with_reducible refine (law_known _).mono ?_); rintro e31 v31 ⟨rfl, hb31⟩; have hT31 := keep9 (by assumption) hb31; have hU31 := hT31; unfold Cells3 at hU31; clear hb31)))
        all_goals
          go_wp2
          go_ret
          exact ⟨rfl, below_trans' HB5.out HB5.out.size (And.right (by assumption))⟩
end Go.Proofs.Ytdbhhnphpjdmbaa
