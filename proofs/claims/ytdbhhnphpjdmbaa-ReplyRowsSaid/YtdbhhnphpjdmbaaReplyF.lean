/- Contracts of package reply and of the law ReplyRows: what each call answers and what it leaves in memory. No condition beyond the ones written. -/
import Derived.Test.YtdbhhnphpjdmbaaReplyE
namespace Go.Proofs.Ytdbhhnphpjdmbaa
open Go.RowKit
set_option maxRecDepth 100000
set_option linter.unusedVariables false
def vOf (l : List Int) (bad : List Bool) (i : Nat) : Value := if bad.getD i false = true then .iface 27 (.agg #[.int .i64 i]) else .iface 2 (.int .i64 (l.getD i 0))
def rOf (l : List Int) (bad : List Bool) (i : Nat) : Int × Bool := if bad.getD i false = true then (0, false) else (l.getD i 0, true)
def vals (l : List Int) (bad : List Bool) (k : Nat) : List Value := (List.range k).map (vOf l bad)
def rows (l : List Int) (bad : List Bool) (k : Nat) : List (Int × Bool) := (List.range k).map (rOf l bad)
theorem vals_succ (l : List Int) (bad : List Bool) (k : Nat) : vals l bad (k + 1) = vals l bad k ++ [vOf l bad k] := by simp [vals, List.range_succ]
theorem rd_int {w : World} {A : Option Addr} {k : IntKind} {xs : List Int} (h : Rd w A (xs.map (Value.int k))) (j : Nat) (hj : j < xs.length) : ∃ ad x, A = some ad ∧ xs.getD j 0 = x ∧ w.cell? (ad.add j) = some (.int k x) := by
  obtain ⟨ad, rfl, hc⟩ := h (fun e => by rw [List.map_eq_nil_iff] at e; subst e; simp at hj)
  exact ⟨ad, _, rfl, rfl, hc j _ (by simp [List.getElem?_eq_getElem hj, List.getD_eq_getElem?_getD])⟩
theorem rd_bool {w : World} {A : Option Addr} {xs : List Bool} (h : Rd w A (xs.map Value.bool)) (j : Nat) (hj : j < xs.length) : ∃ ad, A = some ad ∧ w.cell? (ad.add j) = some (.bool (xs.getD j false)) := by
  obtain ⟨ad, rfl, hc⟩ := h (fun e => by rw [List.map_eq_nil_iff] at e; subst e; simp at hj)
  exact ⟨ad, rfl, hc j _ (by simp [List.getElem?_eq_getElem hj, List.getD_eq_getElem?_getD])⟩
theorem vrOk (l : List Int) (bad : List Bool) (k : Nat) : ∀ (j : Nat) v r, (vals l bad k)[j]? = some v → (rows l bad k)[j]? = some r → OfOk v r := by
  intro j v r hv hr
  simp only [vals, rows, List.getElem?_map] at hv hr
  rw [Option.map_eq_some_iff] at hv hr
  obtain ⟨i, hi, rfl⟩ := hv
  obtain ⟨i', hi', rfl⟩ := hr
  obtain rfl : i = i' := by rw [hi] at hi'; exact Option.some.inj hi'
  unfold vOf rOf
  split
  · exact ofok_same (of_own _)
  · exact ofok_same (of_i64 _)
theorem own_lit_ {w : World} {B n : Nat} {v : Value} {vs : List Value} (h : w.ownsRow B 20 1 v n vs) : ∃ A c, v = .slice A n c ∧ n ≤ c ∧ (0 < n → ∃ g o, A = some ⟨g, o, none⟩ ∧ g < w.heap.size ∧ ∀ (j : Nat) v, vs[j]? = some v → w.cell? ⟨g, o + j, none⟩ = some v) := by
  have h2 := h
  rcases h.2 with ⟨rfl, h0⟩ | ⟨g, cap, cur, rfl, _, hg, hn, _⟩
  · subst h0
    exact ⟨none, 0, rfl, Nat.le_refl _, fun h => absurd h (Nat.lt_irrefl _)⟩
  · refine ⟨_, cap, rfl, hn, fun _ => ⟨g, 0, rfl, blk_lt hg, fun j v hv => ?_⟩⟩
    have := h2.cells (g := g) rfl j v hv
    rw [add_at] at this
    rwa [Nat.zero_add]
def askl (xs : List Int) (q : Nat) : List (Int × Int) := (List.range q).map fun i => (xs.getD i 0, (i : Int))
theorem askl_succ (xs : List Int) (q : Nat) (x : Int) (h : xs.getD q 0 = x) : askl xs q ++ [(x, (q : Int))] = askl xs (q + 1) := by subst h; simp [askl, List.range_succ]
theorem ask_at (w : World) (B b : Nat) (L : List (Int × Bool)) (asks : List (Int × Int)) (q : Nat) (n : Int) (ok : Bool) (nm x : Int) (h : RowSt w B b (L.drop q) asks) (hB : B ≤ w.heap.size) (ha : asks.length ≤ 1000000)
    (h1 : L[q]? = some (n, ok) ∨ (L.length ≤ q ∧ n = 0 ∧ ok = true)) :
    Calls Try.prog 12 #[.pointer (some ⟨b, 0, none⟩), .int .i32 nm, .int .i64 x] w fun e w' => e = .returned (.tuple #[.int .i64 n, .bool ok]) ∧ RowSt w' B b (L.drop (q + 1)) (asks ++ [(nm, x)]) ∧ Below B w w' := by
  rcases h1 with h1 | ⟨h1, rfl, rfl⟩
  · obtain ⟨hl, he⟩ := List.getElem?_eq_some_iff.1 h1
    rw [List.drop_eq_getElem_cons hl, he] at h
    exact ask_some w B b n ok _ asks nm x h hB ha
  · rw [List.drop_eq_nil_of_le h1] at h
    rw [List.drop_eq_nil_of_le (by omega)]
    exact ask_none w B b asks nm x h hB ha
theorem askl_cells_len (xs : List Int) (q : Nat) : (askCells (askl xs q)).length = q * 2 := by
  induction q with
  | zero => rfl
  | succ q ih => rw [← askl_succ xs q _ rfl, ← askCells_snoc, List.length_append, ih]; simp; omega
theorem askl_at (xs : List Int) (q : Nat) (nm : Int) (h : xs.getD q 0 = nm) : (askCells (askl xs (q + 1)))[q * 2]? = some (.int .i32 nm) ∧ (askCells (askl xs (q + 1)))[q * 2 + 1]? = some (.int .i64 q) := by
  have hl := askl_cells_len xs q
  rw [← askl_succ xs q nm h, ← askCells_snoc]
  constructor
  · rw [List.getElem?_append_right (by omega), hl]; simp
  · rw [List.getElem?_append_right (by omega), hl]
    have : q * 2 + 1 - q * 2 = 1 := by omega
    rw [this]; simp
theorem rows_at (l : List Int) (bad : List Bool) (k q : Nat) (h : q < k) : (rows l bad k)[q]? = some (rOf l bad q) := by simp [rows, h]
theorem askl_len (xs : List Int) (q : Nat) : (askl xs q).length = q := by simp [askl]
set_option maxHeartbeats 4000000 in
theorem ReplyRows_walk (W : World) (a0 : Option Addr) (cap0 : Nat) (xs0 : List Int) (hc0 : xs0.length ≤ cap0) (hm0 : cap0 ≤ maxLen) (hb0 : xs0.length * 8 ≤ 140737488351232) (hr0 : Rd W a0 (xs0.map (Value.int .i64))) (hw0 : ∀ x ∈ xs0, (Lit.int .i64 x).wf = true)
    (a1 : Option Addr) (cap1 : Nat) (xs1 : List Bool) (hc1 : xs1.length ≤ cap1) (hm1 : cap1 ≤ maxLen) (hr1 : Rd W a1 (xs1.map Value.bool))
    (a2 : Option Addr) (cap2 : Nat) (xs2 : List Int) (hc2 : xs2.length ≤ cap2) (hm2 : cap2 ≤ maxLen) (hb2 : xs2.length * 4 ≤ 140737488351232) (hr2 : Rd W a2 (xs2.map (Value.int .i32))) (hw2 : ∀ x ∈ xs2, (Lit.int .i32 x).wf = true) :
    Calls Try.prog 3 #[.slice a0 xs0.length cap0, .slice a1 xs1.length cap1, .slice a2 xs2.length cap2] W fun e w' => e = .returned (.bool true) ∧ Below W.heap.size W w' := by
  have HR0 := Lib.hid hr0
  have HR1 := Lib.hid hr1
  have HR2 := Lib.hid hr2
  simp only [maxLen] at hm1
  clear hr0 hr1 hr2 hw0 hw2 hm0 hm2
  go_enter Try.func3, Try.ntmps3
  go_wp2
  go_loopw [7, 8] (fun v i wr => ∃ k : Nat, k ≤ xs0.length ∧ k ≤ 30 ∧ i = .int .i64 k ∧ Hid (wr.ownsRow W.heap.size 20 1 v k (vals xs0 xs1 k)) ∧ Hid (Below W.heap.size W wr)) (fun _ i _ => xs0.length - (intOf i).toNat)
  case atStart => exact ⟨0, Nat.zero_le _, Nat.zero_le _, rfl, World.ownsRow_nil _ _ _ _, Below.refl _ _⟩
  case round =>
    obtain ⟨k, hk, hk2, rfl, Ho, HB⟩ := hrel
    have hs1 := HB.out.size
    by_cases hlt : k < xs0.length ∧ k < 30
    · obtain ⟨hlt, hlt2⟩ := hlt
      obtain ⟨ad0, x, rfl, hx, hcl⟩ := rd_int HR0.out k hlt
      have hcw : wr.cell? (ad0.add k) = some (.int .i64 x) := (HB.out.cell (cell_blk hcl)).trans hcl
      have Hx := Lib.hid hx
      clear hcl hx
      have step : ∀ (v : Value) (g1 c1 : Nat) (w2 : World) (u : Value), Hid (w2.ownsRow W.heap.size 20 1 (.slice (some ⟨g1, 0, none⟩) (k + 1) c1) (k + 1) (vals xs0 xs1 k ++ [u])) → vOf xs0 xs1 k = u → Hid (w2.ownsRow W.heap.size 20 1 (.slice (some ⟨g1, 0, none⟩) (k + 1) c1) (k + 1) (vals xs0 xs1 (k + 1))) := fun v g1 c1 w2 u h e => by
        rw [vals_succ, e]; exact h
      have Hstep := Lib.hid step
      clear step
      by_cases hbl : k < xs1.length
      · obtain ⟨ad1, rfl, hcl1⟩ := rd_bool HR1.out k hbl
        cases hbv : xs1.getD k false with
        | true =>
          have hcw1 : wr.cell? (ad1.add k) = some (.bool true) := by rw [(HB.out.cell (cell_blk hcl1)).trans hcl1, hbv]
          have Hbv := Lib.hid hbv
          clear hcl1 hbv
          go_wp2_with (first
            | (at_builtin; refine ev_append1 W.heap.size rfl (.tmp 36) (.tmp 40) 25 20 _ 1 16 rfl Try.underlying25 info20 rfl (by decide) (by decide) _ k (vals xs0 xs1 k) [.iface 27 (.agg #[.int .i64 k])] rfl rfl rfl (by simp [Value.oneCell']) Ho.out hs1 (by omega) ?_)
            | go_in)
          intro g1 c1 w2 hown2 hg2 _
          have Ho2 := Hstep.out .nilIface g1 c1 w2 (.iface 27 (.agg #[.int .i64 k])) hown2 (by simp only [vOf]; rw [if_pos Hbv.out])
          have HB2 : Hid (Below W.heap.size W w2) := HB.out.grown hg2 hs1 (fun q hq => (Ho.out.lt q hq).1)
          clear hown2 hg2
          go_wp2
          go_roundw
          case rel => exact ⟨k + 1, by omega, by omega, by go_num, Ho2, HB2⟩
          case measure => simp [intOf]; omega
        | false =>
          have hcw1 : wr.cell? (ad1.add k) = some (.bool false) := by rw [(HB.out.cell (cell_blk hcl1)).trans hcl1, hbv]
          have Hbv := Lib.hid hbv
          clear hcl1 hbv
          go_wp2_with (first
            | (at_builtin; refine ev_append1 W.heap.size rfl (.tmp 42) (.tmp 48) 25 20 _ 1 16 rfl Try.underlying25 info20 rfl (by decide) (by decide) _ k (vals xs0 xs1 k) [.iface 2 (.int .i64 x)] rfl rfl rfl (by simp [Value.oneCell']) Ho.out hs1 (by omega) ?_)
            | go_in)
          intro g1 c1 w2 hown2 hg2 _
          have Ho2 := Hstep.out .nilIface g1 c1 w2 (.iface 2 (.int .i64 x)) hown2 (by simp only [vOf]; rw [if_neg (by rw [Hbv.out]; simp), Hx.out])
          have HB2 : Hid (Below W.heap.size W w2) := HB.out.grown hg2 hs1 (fun q hq => (Ho.out.lt q hq).1)
          clear hown2 hg2
          go_wp2
          go_roundw
          case rel => exact ⟨k + 1, by omega, by omega, by go_num, Ho2, HB2⟩
          case measure => simp [intOf]; omega
      · have hbv : xs1.getD k false = false := by rw [List.getD_eq_getElem?_getD, List.getElem?_eq_none (by omega)]; rfl
        have Hbv := Lib.hid hbv
        clear hbv
        go_wp2_with (first
          | (at_builtin; refine ev_append1 W.heap.size rfl (.tmp 42) (.tmp 48) 25 20 _ 1 16 rfl Try.underlying25 info20 rfl (by decide) (by decide) _ k (vals xs0 xs1 k) [.iface 2 (.int .i64 x)] rfl rfl rfl (by simp [Value.oneCell']) Ho.out hs1 (by omega) ?_)
          | go_in)
        intro g1 c1 w2 hown2 hg2 _
        have Ho2 := Hstep.out .nilIface g1 c1 w2 (.iface 2 (.int .i64 x)) hown2 (by simp only [vOf]; rw [if_neg (by rw [Hbv.out]; simp), Hx.out])
        have HB2 : Hid (Below W.heap.size W w2) := HB.out.grown hg2 hs1 (fun q hq => (Ho.out.lt q hq).1)
        clear hown2 hg2
        go_wp2
        go_roundw
        case rel => exact ⟨k + 1, by omega, by omega, by go_num, Ho2, HB2⟩
        case measure => simp [intOf]; omega
    · have HVR := Lib.hid (vrOk xs0 xs1 k)
      obtain ⟨A, c, rfl, hkc, hA⟩ := own_lit_ Ho.out
      have HA := Lib.hid hA
      have hl1 : (vals xs0 xs1 k).length = k := by simp [vals]
      have hl2 : (rows xs0 xs1 k).length = k := by simp [rows]
      have HN := Lib.hid (new_calls wr A k c (vals xs0 xs1 k) (rows xs0 xs1 k) hl1 hl2 (by omega) hkc hA HVR.out)
      clear hA hl1 hl2
      by_cases hl0 : k < xs0.length
      all_goals
        go_wp2_with (go_at_call 11; refine HN.out.mono ?_; rintro e w1 ⟨b, rfl, hr5, hb5⟩; have HR5 := Lib.hid hr5; have HB5 := below_more HB hb5; have hs5 := hb5.size; clear hr5 hb5)
        have hlo : W.heap.size ≤ wr.heap.size := hs1
        generalize wr.heap.size = B at HR5 hs5 hlo
        clear HVR HN HA
        obtain ⟨w0, hw0⟩ : ∃ w0 : World, w0 = w1 := ⟨_, rfl⟩
        subst hw0
        go_loopw [10] (fun i wr => ∃ q : Nat, q ≤ xs2.length ∧ q ≤ 40 ∧ i = .int .i64 q ∧ Hid (RowSt wr B b ((rows xs0 xs1 k).drop q) (askl xs2 q)) ∧ Hid (Below W.heap.size W wr) ∧ B ≤ wr.heap.size) (fun i _ => xs2.length - (intOf i).toNat)
        case atStart => exact ⟨0, Nat.zero_le _, Nat.zero_le _, rfl, HR5, HB5, hs5⟩
        case round =>
          obtain ⟨q, hq, hq2, rfl, HS, HBq, hsq⟩ := hrel
          by_cases hqq : q < xs2.length ∧ q < 40
          · obtain ⟨hq3, hq4⟩ := hqq
            obtain ⟨ad2, nm, rfl, hnm, hcl2⟩ := rd_int HR2.out q hq3
            have hcn := (HBq.out.cell (cell_blk hcl2)).trans hcl2
            have Hcl2 := Lib.hid hcl2
            have Hnm := Lib.hid hnm
            clear hcl2 hnm
            by_cases hqk : q < k
            · obtain ⟨ad0, x, rfl, hx, hcl⟩ := rd_int HR0.out q (by omega)
              have Hcl0 := Lib.hid hcl
              have Hx := Lib.hid hx
              clear hcl hx
              by_cases hbl : q < xs1.length
              · obtain ⟨ad1, rfl, hcl1⟩ := rd_bool HR1.out q hbl
                have Hcl1 := Lib.hid hcl1
                clear hcl1
                cases hbv : xs1.getD q false with
                | true =>
                  have Hbv := Lib.hid hbv
                  clear hbv
                  go_wp2_with (fail)
                  refine (ask_at _ B b (rows xs0 xs1 k) (askl xs2 q) q 0 false nm q HS.out hsq (by rw [askl_len]; omega) (.inl (by rw [rows_at xs0 xs1 k q hqk]; simp only [rOf]; rw [if_pos Hbv.out]))).mono ?_
                  rintro e w2 ⟨rfl, hr6, hb6⟩
                  have HB6 : Hid (Below W.heap.size W w2) := HBq.out.trans (hb6.mono hlo)
                  have hs6 := Nat.le_trans hsq hb6.size
                  rw [askl_succ xs2 q nm Hnm.out] at hr6
                  have HR6 := Lib.hid hr6
                  clear hr6 hb6 hcn
                  have hqi : q < xs0.length := by omega
                  have hqi' : (q : Int) < (xs0.length : Int) := by omega
                  have hc0' := (HB6.out.cell (cell_blk Hcl0.out)).trans Hcl0.out
                  have hbi' : (q : Int) < (xs1.length : Int) := by omega
                  have hge : decide ((xs1.length : Int) ≤ (q : Int)) = false := by simp; omega
                  have hge2 : decide (xs1.length ≤ q) = false := by simp; omega
                  have hc1' := (HB6.out.cell (cell_blk Hcl1.out)).trans (Hcl1.out.trans (by rw [Hbv.out]))
                  go_wp2
                  go_quiet (fail)
                  go_wp2_with (fail)
                  refine (asks_calls (w2.drewN _) B b _ _ (HR6.out.move (fun _ _ => rfl)) (by rw [askl_len]; omega) (fun e => by have := congrArg List.length e; simp [askl_len] at this)).mono ?_
                  rintro e w3 ⟨A3, c3, rfl, ho7, hb7⟩
                  rw [askl_len] at ho7
                  obtain ⟨g3, cap3, hA3, _⟩ := ho7.form (by omega)
                  injection hA3 with hA3 _ hA4
                  subst hA3 hA4
                  have HR7 : Hid (RowSt w3 B b ((rows xs0 xs1 k).drop (q + 1)) (askl xs2 (q + 1))) := HR6.out.move (fun q hq => hb7.block q hq)
                  have HB7 : Hid (Below W.heap.size W w3) := by first | exact below_more HB6 hb7 | exact below_more (w1 := w2.drewN _) (below_drewN' HB6.out _) hb7
                  have hs7 := Nat.le_trans hs6 hb7.size
                  have e0 : w3.cell? ⟨g3, q * 2, none⟩ = some (.int .i32 nm) := by rw [ho7.cellAt (q * 2) (by omega)]; exact (askl_at xs2 q nm Hnm.out).1
                  have e1 : w3.cell? ⟨g3, q * 2 + 1, none⟩ = some (.int .i64 q) := by rw [ho7.cellAt (q * 2 + 1) (by omega)]; exact (askl_at xs2 q nm Hnm.out).2
                  have hcn3 := (HB7.out.cell (cell_blk Hcl2.out)).trans Hcl2.out
                  have hlen : (askl xs2 (q + 1)).length = q + 1 := askl_len _ _
                  clear ho7 hb7
                  go_wp2
                  go_quiet (fail)
                  go_wp2
                  go_roundw
                  case rel => exact ⟨q + 1, by omega, by omega, by go_num, HR7.out.move (fun _ _ => rfl), below_drewN' HB7.out _, hs7⟩
                  case measure => simp [intOf]; omega

                | false =>
                  have Hbv := Lib.hid hbv
                  clear hbv
                  go_wp2_with (fail)
                  refine (ask_at _ B b (rows xs0 xs1 k) (askl xs2 q) q x true nm q HS.out hsq (by rw [askl_len]; omega) (.inl (by rw [rows_at xs0 xs1 k q hqk]; simp only [rOf]; rw [if_neg (by rw [Hbv.out]; simp), Hx.out]))).mono ?_
                  rintro e w2 ⟨rfl, hr6, hb6⟩
                  have HB6 : Hid (Below W.heap.size W w2) := HBq.out.trans (hb6.mono hlo)
                  have hs6 := Nat.le_trans hsq hb6.size
                  rw [askl_succ xs2 q nm Hnm.out] at hr6
                  have HR6 := Lib.hid hr6
                  clear hr6 hb6 hcn
                  have hqi : q < xs0.length := by omega
                  have hqi' : (q : Int) < (xs0.length : Int) := by omega
                  have hc0' := (HB6.out.cell (cell_blk Hcl0.out)).trans Hcl0.out
                  have hbi' : (q : Int) < (xs1.length : Int) := by omega
                  have hge : decide ((xs1.length : Int) ≤ (q : Int)) = false := by simp; omega
                  have hge2 : decide (xs1.length ≤ q) = false := by simp; omega
                  have hc1' := (HB6.out.cell (cell_blk Hcl1.out)).trans (Hcl1.out.trans (by rw [Hbv.out]))
                  go_wp2
                  go_quiet (fail)
                  go_wp2_with (fail)
                  refine (asks_calls (w2.drewN _) B b _ _ (HR6.out.move (fun _ _ => rfl)) (by rw [askl_len]; omega) (fun e => by have := congrArg List.length e; simp [askl_len] at this)).mono ?_
                  rintro e w3 ⟨A3, c3, rfl, ho7, hb7⟩
                  rw [askl_len] at ho7
                  obtain ⟨g3, cap3, hA3, _⟩ := ho7.form (by omega)
                  injection hA3 with hA3 _ hA4
                  subst hA3 hA4
                  have HR7 : Hid (RowSt w3 B b ((rows xs0 xs1 k).drop (q + 1)) (askl xs2 (q + 1))) := HR6.out.move (fun q hq => hb7.block q hq)
                  have HB7 : Hid (Below W.heap.size W w3) := by first | exact below_more HB6 hb7 | exact below_more (w1 := w2.drewN _) (below_drewN' HB6.out _) hb7
                  have hs7 := Nat.le_trans hs6 hb7.size
                  have e0 : w3.cell? ⟨g3, q * 2, none⟩ = some (.int .i32 nm) := by rw [ho7.cellAt (q * 2) (by omega)]; exact (askl_at xs2 q nm Hnm.out).1
                  have e1 : w3.cell? ⟨g3, q * 2 + 1, none⟩ = some (.int .i64 q) := by rw [ho7.cellAt (q * 2 + 1) (by omega)]; exact (askl_at xs2 q nm Hnm.out).2
                  have hcn3 := (HB7.out.cell (cell_blk Hcl2.out)).trans Hcl2.out
                  have hlen : (askl xs2 (q + 1)).length = q + 1 := askl_len _ _
                  clear ho7 hb7
                  go_wp2
                  go_quiet (fail)
                  go_wp2
                  go_roundw
                  case rel => exact ⟨q + 1, by omega, by omega, by go_num, HR7.out.move (fun _ _ => rfl), below_drewN' HB7.out _, hs7⟩
                  case measure => simp [intOf]; omega

              · have hbv : xs1.getD q false = false := by rw [List.getD_eq_getElem?_getD, List.getElem?_eq_none (by omega)]; rfl
                have Hbv := Lib.hid hbv
                clear hbv
                have hge : decide ((xs1.length : Int) ≤ (q : Int)) = true := by simp; omega
                go_wp2_with (fail)
                refine (ask_at _ B b (rows xs0 xs1 k) (askl xs2 q) q x true nm q HS.out hsq (by rw [askl_len]; omega) (.inl (by rw [rows_at xs0 xs1 k q hqk]; simp only [rOf]; rw [if_neg (by rw [Hbv.out]; simp), Hx.out]))).mono ?_
                rintro e w2 ⟨rfl, hr6, hb6⟩
                have HB6 : Hid (Below W.heap.size W w2) := HBq.out.trans (hb6.mono hlo)
                have hs6 := Nat.le_trans hsq hb6.size
                rw [askl_succ xs2 q nm Hnm.out] at hr6
                have HR6 := Lib.hid hr6
                clear hr6 hb6 hcn
                have hqi : q < xs0.length := by omega
                have hqi' : (q : Int) < (xs0.length : Int) := by omega
                have hc0' := (HB6.out.cell (cell_blk Hcl0.out)).trans Hcl0.out
                go_wp2
                go_quiet (fail)
                go_wp2_with (fail)
                refine (asks_calls (w2.drewN _) B b _ _ (HR6.out.move (fun _ _ => rfl)) (by rw [askl_len]; omega) (fun e => by have := congrArg List.length e; simp [askl_len] at this)).mono ?_
                rintro e w3 ⟨A3, c3, rfl, ho7, hb7⟩
                rw [askl_len] at ho7
                obtain ⟨g3, cap3, hA3, _⟩ := ho7.form (by omega)
                injection hA3 with hA3 _ hA4
                subst hA3 hA4
                have HR7 : Hid (RowSt w3 B b ((rows xs0 xs1 k).drop (q + 1)) (askl xs2 (q + 1))) := HR6.out.move (fun q hq => hb7.block q hq)
                have HB7 : Hid (Below W.heap.size W w3) := by first | exact below_more HB6 hb7 | exact below_more (w1 := w2.drewN _) (below_drewN' HB6.out _) hb7
                have hs7 := Nat.le_trans hs6 hb7.size
                have e0 : w3.cell? ⟨g3, q * 2, none⟩ = some (.int .i32 nm) := by rw [ho7.cellAt (q * 2) (by omega)]; exact (askl_at xs2 q nm Hnm.out).1
                have e1 : w3.cell? ⟨g3, q * 2 + 1, none⟩ = some (.int .i64 q) := by rw [ho7.cellAt (q * 2 + 1) (by omega)]; exact (askl_at xs2 q nm Hnm.out).2
                have hcn3 := (HB7.out.cell (cell_blk Hcl2.out)).trans Hcl2.out
                have hlen : (askl xs2 (q + 1)).length = q + 1 := askl_len _ _
                clear ho7 hb7
                go_wp2
                go_quiet (fail)
                go_wp2
                go_roundw
                case rel => exact ⟨q + 1, by omega, by omega, by go_num, HR7.out.move (fun _ _ => rfl), below_drewN' HB7.out _, hs7⟩
                case measure => simp [intOf]; omega

            · skip
              go_wp2_with (fail)
              refine (ask_at _ B b (rows xs0 xs1 k) (askl xs2 q) q 0 true nm q HS.out hsq (by rw [askl_len]; omega) (.inr ⟨by simp [rows]; omega, rfl, rfl⟩)).mono ?_
              rintro e w2 ⟨rfl, hr6, hb6⟩
              have HB6 : Hid (Below W.heap.size W w2) := HBq.out.trans (hb6.mono hlo)
              have hs6 := Nat.le_trans hsq hb6.size
              rw [askl_succ xs2 q nm Hnm.out] at hr6
              have HR6 := Lib.hid hr6
              clear hr6 hb6 hcn
              go_wp2_with (fail)
              refine (asks_calls w2 B b _ _ (HR6.out.move (fun _ _ => rfl)) (by rw [askl_len]; omega) (fun e => by have := congrArg List.length e; simp [askl_len] at this)).mono ?_
              rintro e w3 ⟨A3, c3, rfl, ho7, hb7⟩
              rw [askl_len] at ho7
              obtain ⟨g3, cap3, hA3, _⟩ := ho7.form (by omega)
              injection hA3 with hA3 _ hA4
              subst hA3 hA4
              have HR7 : Hid (RowSt w3 B b ((rows xs0 xs1 k).drop (q + 1)) (askl xs2 (q + 1))) := HR6.out.move (fun q hq => hb7.block q hq)
              have HB7 : Hid (Below W.heap.size W w3) := by first | exact below_more HB6 hb7 | exact below_more (w1 := w2.drewN _) (below_drewN' HB6.out _) hb7
              have hs7 := Nat.le_trans hs6 hb7.size
              have e0 : w3.cell? ⟨g3, q * 2, none⟩ = some (.int .i32 nm) := by rw [ho7.cellAt (q * 2) (by omega)]; exact (askl_at xs2 q nm Hnm.out).1
              have e1 : w3.cell? ⟨g3, q * 2 + 1, none⟩ = some (.int .i64 q) := by rw [ho7.cellAt (q * 2 + 1) (by omega)]; exact (askl_at xs2 q nm Hnm.out).2
              have hcn3 := (HB7.out.cell (cell_blk Hcl2.out)).trans Hcl2.out
              have hlen : (askl xs2 (q + 1)).length = q + 1 := askl_len _ _
              clear ho7 hb7
              go_wp2
              go_quiet (fail)
              go_wp2
              go_roundw
              case rel => exact ⟨q + 1, by omega, by omega, by go_num, HR7.out.move (fun _ _ => rfl), below_drewN' HB7.out _, hs7⟩
              case measure => simp [intOf]; omega

          · by_cases hq3 : q < xs2.length
            all_goals
              go_wp2_with (go_at_call 14; refine (known12 _).mono ?_; rintro e w4 ⟨rfl, hb9⟩)
              go_ret
              exact ⟨rfl, below_more HBq hb9⟩
end Go.Proofs.Ytdbhhnphpjdmbaa
