/- Contracts of the law's row and known. Conditions: a row of fewer than a million numbers. -/
import Derived.Test.YtdbhhnphpjdmbaaNestI
namespace Go.Proofs.Ytdbhhnphpjdmbaa
open Go.RowKit
set_option maxRecDepth 100000
set_option linter.unusedVariables false
set_option linter.unusedSimpArgs false
theorem tok_lit (w : World) (s : ByteArray) (l : List Tk) (n : Nat) (h5 : s.size ≤ 512) (h : tokOf (rsOf s) = some l) (hn : l.length = n) :
    Calls Try.prog 20 #[.string s] w fun e w' => ∃ A c, e = .returned (.tuple #[.slice A n c, .int .i64 0]) ∧ Rd w' A (tcells l) ∧ Below w.heap.size w w' := by
  refine (ref_Tokens w s).mono ?_
  rintro e w' ⟨hb, ⟨A, c, l', _, h1, rfl, ho⟩ | ⟨h1, _⟩ | ⟨_, h1, _⟩⟩
  · rw [h] at h1
    cases h1
    rw [hn] at ho
    exact ⟨A, c, by rw [hn], own_rd ho, hb⟩
  · omega
  · rw [h] at h1
    cases h1
theorem of_lit (w : World) (A : Option Addr) (n c : Nat) (l : List Tk) (p : List Int × Nat) (hl : l.length = n) (hn : n < 1000000) (hr : Rd w A (tcells l)) (hp : nestOf (signs l) = some p) :
    Calls Try.prog 21 #[.slice A n c] w fun e w' => ∃ g c', e = .returned (.tuple #[.slice (some ⟨g, 0, none⟩) n c', .int .i64 0]) ∧ Rd w' (some ⟨g, 0, none⟩) (icells p.1) ∧ Below w.heap.size w w' := by
  refine (nest_Of w A n c l hl hn hr).mono ?_
  rintro e w' ⟨hb, ⟨h1, _⟩ | ⟨p', g, c', h1, _, rfl, ho⟩⟩
  · rw [hp] at h1
    cases h1
  · rw [hp] at h1
    cases h1
    exact ⟨g, c', rfl, own_rd ho, hb⟩
theorem of_none (w : World) (A : Option Addr) (n c : Nat) (l : List Tk) (hl : l.length = n) (hn : n < 1000000) (hr : Rd w A (tcells l)) (hp : nestOf (signs l) = none) :
    Calls Try.prog 21 #[.slice A n c] w fun e w' => e = .returned (.tuple #[.slice none 0 0, .int .i64 13]) ∧ Below w.heap.size w w' := by
  refine (nest_Of w A n c l hl hn hr).mono ?_
  rintro e w' ⟨hb, ⟨_, rfl⟩ | ⟨p', g, c', h1, _⟩⟩
  · exact ⟨rfl, hb⟩
  · rw [hp] at h1
    cases h1
theorem deep_lit (w : World) (A : Option Addr) (n c : Nat) (l : List Tk) (d : Int) (hl : l.length = n) (hn : n < 1000000) (hr : Rd w A (tcells l)) (hp : (match nestOf (signs l) with | some p => (p.2 : Int) | none => -1) = d) :
    Calls Try.prog 22 #[.slice A n c] w fun e w' => e = .returned (.int .i64 d) ∧ Below w.heap.size w w' := by
  refine (nest_Deep w A n c l hl hn hr).mono ?_
  rintro e w' ⟨rfl, hb⟩
  refine ⟨?_, hb⟩
  rw [← hp]
  cases nestOf (signs l) <;> rfl
theorem rd_fresh (w : World) (xs : List Int) (cs : Array Value) (h : cs.toList = icells xs) : Rd (w.alloc (.cells cs 3)) (some ⟨w.heap.size, 0, none⟩) (icells xs) := by
  intro _
  refine ⟨_, rfl, fun j v hv => ?_⟩
  rw [← h] at hv
  have h1 : (w.alloc (.cells cs 3)).heap[w.heap.size]? = some (.cells cs 3) := heap_alloc_new w _
  have h2 := World.news_of_block (cs := cs) (t := 3) (fr := (0, 0)) h1
  have e : (⟨w.heap.size, 0, none⟩ : Addr).add j = ⟨w.heap.size, j, none⟩ := by
    unfold Addr.add
    split
    · rename_i hj; rw [hj]
    · simp
  rw [e]
  have := blk_cell h1 j
  simp at this hv ⊢
  rw [← hv]
set_option maxHeartbeats 2000000 in
theorem law8_known (w : World) : Calls Try.prog 17 #[] w fun e w' => e = .returned (.bool true) ∧ Below w.heap.size w w' := by
  obtain ⟨ta, hta⟩ : ∃ l : List Tk, Hid (l = [⟨91, 0, 0⟩, ⟨126, 0, 0⟩, ⟨93, 0, 0⟩]) := ⟨_, rfl⟩
  obtain ⟨tb, htb⟩ : ∃ l : List Tk, Hid (l = [⟨63, 0, 0⟩, ⟨58, 0, 0⟩, ⟨59, 0, 0⟩]) := ⟨_, rfl⟩
  obtain ⟨tc, htc⟩ : ∃ l : List Tk, Hid (l = [⟨126, 0, 0⟩]) := ⟨_, rfl⟩
  have la : ta.length = 3 := by rw [hta.out]; rfl
  have lb : tb.length = 3 := by rw [htb.out]; rfl
  have lc : tc.length = 1 := by rw [htc.out]; rfl
  have ka := Lib.hid (fun W : World => tok_lit W ⟨#[91, 126, 93]⟩ ta 3 (by decide) (by rw [rs_a, hta.out]; decide) la)
  have kb := Lib.hid (fun W : World => tok_lit W ⟨#[63, 58, 59]⟩ tb 3 (by decide) (by rw [rs_b, htb.out]; decide) lb)
  have kc := Lib.hid (fun W : World => tok_lit W ⟨#[126]⟩ tc 1 (by decide) (by rw [rs_c, htc.out]; decide) lc)
  have pa : Hid (nestOf (signs ta) = some ([-1, 3, 0], 1)) := by show _ = _; rw [hta.out]; decide
  have pb : Hid (nestOf (signs tb) = some ([2, 2, -1], 1)) := by show _ = _; rw [htb.out]; decide
  have pc : Hid (nestOf (signs tc) = none) := by show _ = _; rw [htc.out]; decide
  have la := Lib.hid la
  have lb := Lib.hid lb
  have lc := Lib.hid lc
  clear hta htb htc
  go_enter Try.func17, Try.ntmps17
  go_wp2_with (fail)
  refine (ka.out _).mono ?_
  rintro e w1 ⟨A1, c1, rfl, r1, b1⟩
  have R1 := Lib.hid r1
  have B1 := Lib.hid b1
  clear r1 b1
  go_wp2_with (fail)
  refine (kb.out _).mono ?_
  rintro e w2 ⟨A2, c2, rfl, r2, b2⟩
  have R2 := Lib.hid r2
  have R1 := Lib.hid (R1.out.below b2)
  have B2 := Lib.hid (B1.out.trans (b2.mono B1.out.size))
  clear r2 b2
  go_wp2_with (fail)
  refine (kc.out _).mono ?_
  rintro e w3 ⟨A3, c3, rfl, r3, b3⟩
  have R3 := Lib.hid r3
  have R2 := Lib.hid (R2.out.below b3)
  have R1 := Lib.hid (R1.out.below b3)
  have B3 := Lib.hid (B2.out.trans (b3.mono B2.out.size))
  have h4 := Lib.hid (of_lit w3 A1 3 c1 ta _ la.out (by decide) R1.out pa.out)
  clear r3 b3
  go_wp2_with (fail)
  refine h4.out.mono ?_
  rintro e w4 ⟨g4, c4, rfl, r4, b4⟩
  have R4 := Lib.hid r4
  have R3 := Lib.hid (R3.out.below b4)
  have R2 := Lib.hid (R2.out.below b4)
  have R1 := Lib.hid (R1.out.below b4)
  have B4 := Lib.hid (B3.out.trans (b4.mono B3.out.size))
  have h5 := Lib.hid (of_lit w4 A2 3 c2 tb _ lb.out (by decide) R2.out pb.out)
  clear r4 b4 h4
  go_wp2_with (fail)
  refine h5.out.mono ?_
  rintro e w5 ⟨g5, c5, rfl, r5, b5⟩
  have R5 := Lib.hid r5
  have R4 := Lib.hid (R4.out.below b5)
  have R3 := Lib.hid (R3.out.below b5)
  have R1 := Lib.hid (R1.out.below b5)
  have B5 := Lib.hid (B4.out.trans (b5.mono B4.out.size))
  have h6 := Lib.hid (of_none w5 A3 1 c3 tc lc.out (by decide) R3.out pc.out)
  clear r5 b5 h5
  go_wp2_with (fail)
  refine h6.out.mono ?_
  rintro e w6 ⟨rfl, b6⟩
  have R5 := Lib.hid (R5.out.below b6)
  have R4 := Lib.hid (R4.out.below b6)
  have R3 := Lib.hid (R3.out.below b6)
  have R1 := Lib.hid (R1.out.below b6)
  have B6 := Lib.hid (B5.out.trans (b6.mono B5.out.size))
  clear b6 h6
  obtain ⟨W7, hW7⟩ : ∃ W7, W7 = w6.alloc (.cells #[.int .i64 (-1), .int .i64 3, .int .i64 0] 3) := ⟨_, rfl⟩
  have b7 : Below w6.heap.size w6 W7 := by rw [hW7]; exact (Below.refl _ _).alloc (Nat.le_refl _) _
  have rf : Rd W7 (some ⟨w6.heap.size, 0, none⟩) (icells [-1, 3, 0]) := by rw [hW7]; exact rd_fresh w6 [-1, 3, 0] _ rfl
  have h7 := Lib.hid (same_int W7 (some ⟨g4, 0, none⟩) (some ⟨w6.heap.size, 0, none⟩) 3 c4 3 [-1, 3, 0] rfl (by decide) (R4.out.below b7) rf)
  rw [hW7] at h7
  have R5 := Lib.hid (R5.out.below b7)
  have R3 := Lib.hid (R3.out.below b7)
  have R1 := Lib.hid (R1.out.below b7)
  have B7 := Lib.hid (B6.out.trans (b7.mono B6.out.size))
  rw [hW7] at R5 R3 R1 B7
  clear rf b7 hW7
  go_wp2_with (fail)
  refine h7.out.mono ?_
  rintro e w8 ⟨rfl, b8⟩
  have R5 := Lib.hid (R5.out.below b8)
  have R3 := Lib.hid (R3.out.below b8)
  have R1 := Lib.hid (R1.out.below b8)
  have B8 := Lib.hid (B7.out.trans (b8.mono B7.out.size))
  clear b8 h7
  obtain ⟨W9, hW9⟩ : ∃ W9, W9 = w8.alloc (.cells #[.int .i64 2, .int .i64 2, .int .i64 (-1)] 3) := ⟨_, rfl⟩
  have b9 : Below w8.heap.size w8 W9 := by rw [hW9]; exact (Below.refl _ _).alloc (Nat.le_refl _) _
  have rf : Rd W9 (some ⟨w8.heap.size, 0, none⟩) (icells [2, 2, -1]) := by rw [hW9]; exact rd_fresh w8 [2, 2, -1] _ rfl
  have h9 := Lib.hid (same_int W9 (some ⟨g5, 0, none⟩) (some ⟨w8.heap.size, 0, none⟩) 3 c5 3 [2, 2, -1] rfl (by decide) (R5.out.below b9) rf)
  rw [hW9] at h9
  have R3 := Lib.hid (R3.out.below b9)
  have R1 := Lib.hid (R1.out.below b9)
  have B9 := Lib.hid (B8.out.trans (b9.mono B8.out.size))
  rw [hW9] at R3 R1 B9
  clear rf b9 hW9
  go_wp2_with (fail)
  refine h9.out.mono ?_
  rintro e w10 ⟨rfl, b10⟩
  have R3 := Lib.hid (R3.out.below b10)
  have R1 := Lib.hid (R1.out.below b10)
  have B10 := Lib.hid (B9.out.trans (b10.mono B9.out.size))
  have h11 := Lib.hid (deep_lit w10 A1 3 c1 ta 1 la.out (by decide) R1.out (by rw [pa.out]; rfl))
  clear b10 h9
  go_wp2_with (fail)
  refine h11.out.mono ?_
  rintro e w11 ⟨rfl, b11⟩
  have R3 := Lib.hid (R3.out.below b11)
  have B11 := Lib.hid (B10.out.trans (b11.mono B10.out.size))
  have h12 := Lib.hid (deep_lit w11 A3 1 c3 tc (-1) lc.out (by decide) R3.out (by rw [pc.out]))
  clear b11 h11
  go_wp2_with (fail)
  refine h12.out.mono ?_
  rintro e w12 ⟨rfl, b12⟩
  have B12 := Lib.hid (B11.out.trans (b12.mono B11.out.size))
  have h13 := Lib.hid (deep_lit w12 none 0 0 [] 0 rfl (by decide) (rd_nil _ _) (by decide))
  clear b12 h12
  go_wp2_with (fail)
  refine h13.out.mono ?_
  rintro e w13 ⟨rfl, b13⟩
  have B13 := Lib.hid (B12.out.trans (b13.mono B12.out.size))
  clear b13 h13
  go_wp2
  go_ret
  exact ⟨rfl, B13.out⟩
theorem rd_runes (w : World) (xs : List Int) (cs : Array Value) (h : cs.toList = rcells xs) (k : Nat) (hk : k < xs.length) : (w.alloc (.cells cs 21)).cell? ⟨w.heap.size, k, none⟩ = some (.int .i32 (xs.getD k 0)) := by
  have h1 : (w.alloc (.cells cs 21)).heap[w.heap.size]? = some (.cells cs 21) := heap_alloc_new w _
  have h2 := blk_cell h1 k
  have h3 : cs[k]? = some (.int .i32 (xs.getD k 0)) := by
    rw [← Array.getElem?_toList, h, rcells_get, List.getElem?_eq_getElem hk, List.getD_eq_getElem?_getD, List.getElem?_eq_getElem hk]
    rfl
  exact h2.trans h3
set_option maxHeartbeats 2000000 in
theorem law8_row (w : World) (A : Option Addr) (n c : Nat) (xs : List Int) (hl : xs.length = n) (hn : n ≤ 140737488355328) (hr : Rd w A (icells xs)) :
    Calls Try.prog 16 #[.slice A n c] w fun e w' => ∃ A' c' l, l.length ≤ 50 ∧ e = .returned (.slice A' l.length c') ∧ w'.ownsRow w.heap.size 57 3 (.slice A' l.length c') l.length (tcells l) ∧ Below w.heap.size w w' := by
  have HR : Hid (∀ W, Below w.heap.size w W → Rd W A (icells xs)) := fun W h => hr.below h
  have HL := Lib.hid hl
  clear hr hl
  go_enter Try.func16, Try.ntmps16
  go_wp2
  obtain ⟨B, hB⟩ : ∃ B, B = w.heap.size := ⟨_, rfl⟩
  rw [← hB] at HR
  have HB0 : Hid (Below B w w) := by show Below _ _ _; exact Below.refl _ _
  have hBe := Lib.hid hB
  go_loopw [3, 4] (fun vo i wr => ∃ (k : Nat) (acc : List Tk), k ≤ n ∧ acc.length ≤ k ∧ k ≤ 50 ∧ i = .int .i64 k ∧ Hid (wr.ownsRow B 57 3 vo acc.length (tcells acc)) ∧ Hid (Below B w wr)) (fun _ i _ => n - (intOf i).toNat)
  case atStart => exact ⟨0, [], Nat.zero_le _, Nat.le_refl _, by decide, rfl, World.ownsRow_nil _ _ _ _, HB0.out⟩
  case round =>
    obtain ⟨k, acc, hk, hak, hk5, rfl, HO, HB⟩ := hrel
    obtain ⟨m, hm⟩ : ∃ m, m = acc.length := ⟨_, rfl⟩
    rw [← hm] at HO hak
    obtain ⟨A5, c5, rfl⟩ := own_form HO.out
    have Hm := Lib.hid hm
    have hBs : B ≤ wr.heap.size := by have := HB.out.size; have := hBe.out; omega
    clear hm hB
    by_cases hlt : k < n
    · by_cases h50 : k < 50
      · obtain ⟨ad, rfl, q0⟩ := rd_int (HR.out _ HB.out) k (by rw [HL.out]; exact hlt)
        obtain ⟨x, hx⟩ : ∃ x, Hid (xs.getD k 0 = x) := ⟨_, rfl⟩
        rw [hx.out] at q0
        obtain ⟨W1, hW1⟩ : ∃ W1, W1 = wr.alloc (.cells #[.int .i32 63, .int .i32 58, .int .i32 59, .int .i32 91, .int .i32 93, .int .i32 126, .int .i32 43] 21) := ⟨_, rfl⟩
        have q1 : W1.cell? (ad.add k) = some (.int .i64 x) := by
          rw [hW1]
          have h2 := rd_int (HR.out _ (HB.out.alloc (by omega) (.cells #[.int .i32 63, .int .i32 58, .int .i32 59, .int .i32 91, .int .i32 93, .int .i32 126, .int .i32 43] 21))) k (by rw [HL.out]; exact hlt)
          obtain ⟨ad', e', h3⟩ := h2
          cases e'
          rw [hx.out] at h3
          exact h3
        have hwi := Lib.hid (book_Within x 0 6 W1 (by decide) (by decide) (by decide))
        have HB1 : Hid (Below B w W1) := by show Below _ _ _; rw [hW1]; exact HB.out.alloc (by omega) _
        have HO1 : Hid (W1.ownsRow B 57 3 (.slice A5 m c5) m (tcells acc)) := by show World.ownsRow _ _ _ _ _ _ _; rw [hW1]; exact HO.out.alloc _
        have hBs1 : B ≤ W1.heap.size := by rw [hW1, World.size_alloc]; omega
        have hru : Hid (∀ j : Nat, j < 7 → W1.cell? ⟨wr.heap.size, j, none⟩ = some (.int .i32 ([63, 58, 59, 91, 93, 126, 43].getD j 0))) := fun j hj => by rw [hW1]; exact rd_runes wr [63, 58, 59, 91, 93, 126, 43] _ rfl j hj
        have hlt2 : (k : Int) < (n : Int) := by omega
        rw [hW1] at q1 hwi
        have h50i : (k : Int) < 50 := by omega
        go_wp2_with (fail)
        refine hwi.out.mono ?_
        rintro e w' ⟨mm, rfl, m0, m6, rfl⟩
        rw [← hW1]
        obtain ⟨j, rfl⟩ := Int.eq_ofNat_of_zero_le m0
        have hj : j < 7 := by omega
        have c1 := hru.out j hj
        have hj2 : (j : Int) < 7 := by omega
        generalize [63, 58, 59, 91, 93, 126, (43 : Int)].getD j 0 = sg at c1
        clear hW1 q1 hwi hru m0 m6
        go_wp2_with (first
          | (at_builtin; refine ev_append1 B rfl (.tmp 15) (.tmp 25) 40 57 _ 3 24 rfl Try.underlying40 infoTk rfl (by decide) (by decide) (.slice A5 m c5) m (tcells acc) [.int .i32 sg, .int .i64 0, .int .i32 0] rfl rfl rfl (by simp [Value.oneCell']) HO1.out hBs1 (by omega) ?_)
          | go_in)
        intro g1 c1' w3 ho hg hat
        have HB3 : Hid (Below B w w3) := HB1.out.grown hg hBs1 (fun q hq => (HO1.out.lt q hq).1)
        have HO3 := Lib.hid (tok_push ⟨sg, 0, 0⟩ Hm.out ho)
        clear ho hg hat
        go_wp2
        go_roundw
        case rel => exact ⟨k + 1, acc ++ [⟨sg, 0, 0⟩], by omega, by rw [List.length_append, ← Hm.out]; simp; omega, by omega, by go_num, HO3, HB3⟩
        case measure => simp [intOf]; omega
      · have h50i : ¬ (k : Int) < 50 := by omega
        have hlt2 : (k : Int) < (n : Int) := by omega
        go_wp2
        go_ret
        exact ⟨A5, c5, acc, by rw [← Hm.out]; omega, by rw [← Hm.out]; rfl, by rw [← Hm.out, ← hBe.out]; exact HO.out, by rw [← hBe.out]; exact HB.out⟩
    · have hlt2 : ¬ (k : Int) < (n : Int) := by omega
      go_wp2
      go_ret
      exact ⟨A5, c5, acc, by rw [← Hm.out]; omega, by rw [← Hm.out]; rfl, by rw [← Hm.out, ← hBe.out]; exact HO.out, by rw [← hBe.out]; exact HB.out⟩
end Go.Proofs.Ytdbhhnphpjdmbaa
