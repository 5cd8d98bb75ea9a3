/- Contracts of package sum, of the reference's sums, of slices.Clone and slices.Equal at bytes. Conditions: a number is one of four bytes; a slice is shorter than 2^47. -/
import Derived.Laws.BytesArg
import Derived.Test.YtdbhhnphpjdmbaaBytes
namespace Go.Proofs.Ytdbhhnphpjdmbaa
open Go.RowKit
set_option maxRecDepth 100000
set_option linter.unusedVariables false
theorem infoByte : (Try.prog.info? 5).map (fun i => (i.zero, i.size, i.bytes)) = some (some (.int .u8 0), 1, 1) := by kernel_rfl
theorem rd_byte {w : World} {A : Option Addr} {bs : List UInt8} (h : Rd w A (bcells bs)) (j : Nat) (hj : j < bs.length) : ∃ ad b, A = some ad ∧ bs[j]? = some b ∧ w.cell? (ad.add j) = some (.int .u8 (b.toNat : Int)) := by
  obtain ⟨ad, rfl, hc⟩ := h (fun e => by have := congrArg List.length e; simp [bcells] at this; subst this; simp at hj)
  exact ⟨ad, bs[j], rfl, List.getElem?_eq_getElem hj, hc j _ (by simp [bcells_get, List.getElem?_eq_getElem hj])⟩
def Qt (w w' : World) : Prop := ∃ k, w' = w.drewN k
theorem Qt.refl (w : World) : Qt w w := ⟨0, rfl⟩
theorem Qt.below {w w' : World} (h : Qt w w') : Below w.heap.size w w' := by
  obtain ⟨k, rfl⟩ := h
  exact below_drewN' (Below.refl _ _) k
theorem Qt.step {w w' : World} (h : Qt w w') (k : Nat) : Qt w (w'.drewN k) := by
  obtain ⟨m, rfl⟩ := h
  exact ⟨m + k, World.drewN_drewN ..⟩
theorem Qt.trans {a b c : World} (h : Qt a b) (k : Qt b c) : Qt a c := by
  obtain ⟨m, rfl⟩ := h
  obtain ⟨n, rfl⟩ := k
  exact ⟨m + n, World.drewN_drewN ..⟩
theorem Qt.heap {w w' : World} (h : Qt w w') (k : Nat) : w'.heap[k]? = w.heap[k]? := by
  obtain ⟨m, rfl⟩ := h
  rfl
theorem Qt.cell {w w' : World} (h : Qt w w') (a : Addr) : w'.cell? a = w.cell? a := World.cell?_of_block (h.heap _)
theorem Qt.rd {w w' : World} (h : Qt w w') {A : Option Addr} {vs : List Value} (hr : Rd w A vs) : Rd w' A vs := fun hne => by
  obtain ⟨ad, h1, hc⟩ := hr hne
  exact ⟨ad, h1, fun j v hv => (h.cell _).trans (hc j v hv)⟩

theorem sum_Step (h : Int) (b : UInt8) (h0 : 0 ≤ h) (h1 : h < 4294967296) (w : World) : Calls Try.prog 87 #[.int .u32 h, .int .u8 (b.toNat : Int)] w fun e w' => e = .returned (.int .u32 (fnvStep h b)) ∧ w = w' := by
  have hb := byte_lt b
  go_enter Try.func87, Try.ntmps87
  go_wp2
  go_ret
  exact ⟨rfl, rfl⟩
theorem ref_Step (h : Int) (b : UInt8) (h0 : 0 ≤ h) (h1 : h < 4294967296) (w : World) : Calls Try.prog 81 #[.int .u32 h, .int .u8 (b.toNat : Int)] w fun e w' => e = .returned (.int .u32 (fnvStep h b)) ∧ w = w' := by
  have hb := byte_lt b
  go_enter Try.func81, Try.ntmps81
  go_wp2
  go_ret
  exact ⟨rfl, rfl⟩
theorem fnv_take (bs : List UInt8) (k : Nat) (b : UInt8) (h : bs[k]? = some b) : fnv (bs.take (k + 1)) = fnvStep (fnv (bs.take k)) b := by
  rw [take_snoc' bs k b h, fnv_snoc]
theorem sum_Of (w : World) (A : Option Addr) (n c : Nat) (bs : List UInt8) (hn : bs.length = n) (hm : n ≤ 140737488355328) (hr : Rd w A (bcells bs)) :
    Calls Try.prog 63 #[.slice A n c] w fun e w' => e = .returned (.int .u32 (fnv bs)) ∧ w = w' := by
  have HR := Lib.hid hr
  have HN := Lib.hid hn
  clear hr hn
  go_enter Try.func63, Try.ntmps63
  go_wp2
  go_loop [3, 8] (fun h i => ∃ k : Nat, k ≤ n ∧ i = .int .i64 k ∧ ∃ x, h = .int .u32 x ∧ Hid (x = fnv (bs.take k))) (fun _ i => n - (intOf i).toNat)
  case atStart => exact ⟨0, Nat.zero_le _, rfl, _, rfl, rfl⟩
  case round =>
    obtain ⟨k, hk, rfl, x, rfl, HX⟩ := hrel
    by_cases hlt : k < n
    · obtain ⟨ad, b, rfl, hb, hcell⟩ := rd_byte HR.out k (by rw [HN.out]; exact hlt)
      have hx0 : 0 ≤ x := by rw [HX.out]; exact (fnv_range _).1
      have hx1 : x < 4294967296 := by rw [HX.out]; exact (fnv_range _).2
      have Hb := Lib.hid hb
      clear hb
      go_wp2_with (go_at_call 87; refine (sum_Step x b hx0 hx1 _).mono ?_; rintro e w' ⟨rfl, rfl⟩)
      go_round
      case rel => exact ⟨k + 1, by omega, by go_num, _, rfl, by show _ = _; rw [fnv_take bs k b Hb.out, HX.out]⟩
      case measure => simp [intOf]; omega
    · go_wp2
      go_ret
      exact ⟨by rw [HX.out, List.take_of_length_le (by rw [HN.out]; omega)]; rfl, rfl⟩
theorem ref_Sum (w : World) (A : Option Addr) (n c : Nat) (bs : List UInt8) (hn : bs.length = n) (hm : n ≤ 140737488355328) (hr : Rd w A (bcells bs)) :
    Calls Try.prog 57 #[.slice A n c] w fun e w' => e = .returned (.int .u32 (fnv bs)) ∧ w = w' := by
  have HR := Lib.hid hr
  have HN := Lib.hid hn
  clear hr hn
  go_enter Try.func57, Try.ntmps57
  go_wp2
  go_loop [3, 4] (fun h i => ∃ k : Nat, k ≤ n ∧ i = .int .i64 k ∧ ∃ x, h = .int .u32 x ∧ Hid (x = fnv (bs.take k))) (fun _ i => n - (intOf i).toNat)
  case atStart => exact ⟨0, Nat.zero_le _, rfl, _, rfl, rfl⟩
  case round =>
    obtain ⟨k, hk, rfl, x, rfl, HX⟩ := hrel
    by_cases hlt : k < n
    · obtain ⟨ad, b, rfl, hb, hcell⟩ := rd_byte HR.out k (by rw [HN.out]; exact hlt)
      have hx0 : 0 ≤ x := by rw [HX.out]; exact (fnv_range _).1
      have hx1 : x < 4294967296 := by rw [HX.out]; exact (fnv_range _).2
      have Hb := Lib.hid hb
      clear hb
      go_wp2_with (go_at_call 81; refine (ref_Step x b hx0 hx1 _).mono ?_; rintro e w' ⟨rfl, rfl⟩)
      go_round
      case rel => exact ⟨k + 1, by omega, by go_num, _, rfl, by show _ = _; rw [fnv_take bs k b Hb.out, HX.out]⟩
      case measure => simp [intOf]; omega
    · go_wp2
      go_ret
      exact ⟨by rw [HX.out, List.take_of_length_le (by rw [HN.out]; omega)]; rfl, rfl⟩
theorem own_nilrow (w : World) (e : TypeId) (size : Nat) : (w.alloc (.cells #[] e)).ownsRow w.heap.size e size (.slice (some ⟨w.heap.size, 0, none⟩) 0 0) 0 [] :=
  World.ownsRow_lit (base := w.heap.size) (e := e) (size := size) w #[] 0 (Nat.le_refl _) (by decide) (by simp)
theorem clone_bytes (w : World) (A : Option Addr) (n c : Nat) (bs : List UInt8) (hn : bs.length = n) (hm : n ≤ 140737488355328) (hr : Rd w A (bcells bs)) (hA : A = none → n = 0) :
    Calls Try.prog 68 #[.slice A n c] w fun e w' => ∃ A' c', e = .returned (.slice A' n c') ∧ w'.ownsRow w.heap.size 5 1 (.slice A' n c') n (bcells bs) ∧ Below w.heap.size w w' := by
  have hnil := Lib.run_eql_slice_nil (P := Try.prog)
  have hl : (bcells bs).length = n * 1 := by rw [bcells_length, hn, Nat.mul_one]
  have HL := Lib.hid hl
  have h0 := Lib.hid (own_nilrow w 5 1)
  have hr2 : Hid (Rd (w.alloc (.cells #[] 5)) A (bcells bs)) := hr.below ((Below.refl _ _).alloc (Nat.le_refl _) _)
  cases A with
  | none =>
    obtain rfl := hA rfl
    obtain rfl : bs = [] := List.eq_nil_of_length_eq_zero hn
    clear hr hn hl
    go_enter Try.func68, Try.ntmps68
    go_wp2
    go_ret
    exact ⟨none, 0, rfl, World.ownsRow_nil _ _ _ _, Below.refl _ _⟩
  | some ad =>
    clear hr hn hl hA
    go_enter Try.func68, Try.ntmps68
    go_wp2_with (first
     | (at_builtin; refine ev_appendR w.heap.size rfl (.tmp 5) (.tmp 6) 66 5 _ 1 1 rfl Try.underlying66 infoByte rfl (by decide) (by decide) _ 0 [] (some ad) n c (bcells bs) rfl rfl HL.out hr2.out (bcells_one bs) h0.out (by simp) (by omega) ?_)
     | go_in)
    intro A1 c1 w1 hown1 hg1 _
    have Hown := Lib.hid hown1
    have Hg := Lib.hid (Below.grown (Below.alloc (Below.refl w.heap.size w) (Nat.le_refl _) (.cells #[] 5)) hg1 (by simp) (fun k hk => by
      have : w.heap.size = k := by simpa [Value.ownBlock] using hk
      omega))
    clear hown1 hg1
    go_wp2
    go_ret
    exact ⟨A1, c1, rfl, Hown.out, Hg.out⟩
theorem equal_bytes (w : World) (A B : Option Addr) (n m c d : Nat) (xs ys : List UInt8) (hx : xs.length = n) (hy : ys.length = m) (hm : n ≤ 140737488355328) (hA : Rd w A (bcells xs)) (hB : Rd w B (bcells ys)) :
    Calls Try.prog 65 #[.slice A n c, .slice B m d] w fun e w' => e = .returned (.bool (decide (xs = ys))) ∧ Qt w w' := by
  have HAA := Lib.hid hA
  have HBB := Lib.hid hB
  have HX := Lib.hid hx
  have HY := Lib.hid hy
  clear hA hB hx hy
  by_cases hl : n = m
  · subst hl
    go_enter Try.func65, Try.ntmps65
    go_wp2
    go_loopw [13] (fun i wr => ∃ k : Nat, k ≤ n ∧ i = .int .i64 k ∧ Hid (xs.take k = ys.take k) ∧ Hid (Qt w wr)) (fun i _ => n - (intOf i).toNat)
    case atStart => exact ⟨0, Nat.zero_le _, rfl, rfl, Qt.refl _⟩
    case round =>
      obtain ⟨k, hk, rfl, HE, HW⟩ := hrel
      by_cases hlt : k < n
      · obtain ⟨ad, x, rfl, hx, hca⟩ := rd_byte HAA.out k (by rw [HX.out]; exact hlt)
        obtain ⟨bd, y, rfl, hy, hcb⟩ := rd_byte HBB.out k (by rw [HY.out]; exact hlt)
        have c1 := (HW.out.cell _).trans hca
        have c2 := (HW.out.cell _).trans hcb
        have hki : (k : Int) < (n : Int) := by omega
        have Hx := Lib.hid hx
        have Hy := Lib.hid hy
        clear hca hcb hx hy
        by_cases hxy : x = y
        · subst hxy
          go_wp2
          go_quiet (fail)
          go_wp2
          go_roundw
          case rel =>
            refine ⟨k + 1, by omega, by go_num, ?_, HW.out.step _⟩
            show xs.take (k + 1) = ys.take (k + 1)
            rw [take_snoc' xs k _ Hx.out, take_snoc' ys k _ Hy.out, HE.out]
          case measure => simp [intOf]; omega
        · have hne : ((x.toNat : Int) != (y.toNat : Int)) = true := by
            simp
            exact fun e => hxy (UInt8.toNat_inj.1 (Int.ofNat.inj e))
          have HXY := Lib.hid hxy
          clear hxy
          go_wp2
          go_quiet (fail)
          go_wp2
          go_ret
          refine ⟨?_, HW.out.step _⟩
          have : ¬ xs = ys := fun e => HXY.out (by have h := Hx.out; rw [e, Hy.out] at h; exact (Option.some.inj h).symm)
          simp [this]
      · obtain rfl : k = n := by omega
        go_wp2
        go_ret
        refine ⟨?_, HW.out⟩
        have h := HE.out
        rw [List.take_of_length_le (by rw [HX.out]; exact Nat.le_refl _), List.take_of_length_le (by rw [HY.out]; exact Nat.le_refl _)] at h
        simp [h]
  · have h1 : ((n : Int) != (m : Int)) = true := by simp; omega
    have h2 : (n != m) = true := by simpa using hl
    have HL := Lib.hid hl
    clear hl
    go_enter Try.func65, Try.ntmps65
    go_wp2
    go_ret
    refine ⟨?_, Qt.refl _⟩
    have : ¬ xs = ys := fun e => HL.out (by rw [← HX.out, ← HY.out, e])
    simp [this]
set_option maxHeartbeats 1000000 in
theorem sum_Put (w : World) (A : Option Addr) (n c : Nat) (bs : List UInt8) (x : Int) (hn : bs.length = n) (hm : n ≤ 140737488000000) (hr : Rd w A (bcells bs)) (h0 : 0 ≤ x) (h1 : x < 4294967296) :
    Calls Try.prog 62 #[.slice A n c, .int .u32 x] w fun e w' => ∃ A' c', e = .returned (.slice A' (n + 4) c') ∧ w'.ownsRow w.heap.size 5 1 (.slice A' (n + 4) c') (n + 4) (bcells (bs ++ put4 x)) ∧ Below w.heap.size w w' := by
  have hl : (bcells bs).length = n * 1 := by rw [bcells_length, hn, Nat.mul_one]
  have HL := Lib.hid hl
  have h0' := Lib.hid (own_nilrow w 5 1)
  have hr2 : Hid (Rd (w.alloc (.cells #[] 5)) A (bcells bs)) := hr.below ((Below.refl _ _).alloc (Nat.le_refl _) _)
  have hb3 := b8_toNat (x / 16777216)
  have hb2 := b8_toNat (x / 65536)
  have hb1 := b8_toNat (x / 256)
  have hb0 := b8_toNat x
  have Hb3 := Lib.hid hb3
  have Hb2 := Lib.hid hb2
  have Hb1 := Lib.hid hb1
  have Hb0 := Lib.hid hb0
  clear hr hn hl hb3 hb2 hb1 hb0
  go_enter Try.func62, Try.ntmps62
  go_wp2_with (first
     | (at_builtin; refine ev_appendR w.heap.size rfl (.tmp 7) (.tmp 8) 66 5 _ 1 1 rfl Try.underlying66 infoByte rfl (by decide) (by decide) _ 0 [] A n c (bcells bs) rfl rfl HL.out hr2.out (bcells_one bs) h0'.out (by simp) (by omega) ?_)
     | go_in)
  intro A1 c1 w1 hown1 hg1 _
  have hB1 := Lib.hid (Below.grown (Below.alloc (Below.refl w.heap.size w) (Nat.le_refl _) (.cells #[] 5)) hg1 (by simp) (fun k hk => by
      have : w.heap.size = k := by simpa [Value.ownBlock] using hk
      omega))
  have hs1 := hB1.out.size
  have Ho1 := Lib.hid hown1
  clear hown1 hg1
  go_wp2
  refine wp_loop_rounds 5 ?_
  rw [rounds_succ]
  go_wp2_with (first
    | (at_builtin; refine ev_append1 w.heap.size rfl (.tmp 14) (.tmp 20) 66 5 _ 1 1 rfl Try.underlying66 infoByte rfl (by decide) (by decide) _ n (bcells (bs)) [.int .u8 (x / 16777216)] rfl rfl rfl (by simp [Value.oneCell']) Ho1.out hs1 (by omega) ?_)
    | go_in)
  intro g2 c2 w2 hown hg _
  have hB2 : Hid (Below w.heap.size w w2) := hB1.out.grown hg hs1 (fun q hq => (Ho1.out.lt q hq).1)
  have hs2 := hB2.out.size
  have Ho2 : Hid (w2.ownsRow w.heap.size 5 1 (.slice (some ⟨g2, 0, none⟩) (n + 1) c2) (n + 1) (bcells (bs ++ [b8 (x / 16777216)]))) := by
    have e : bcells (bs ++ [b8 (x / 16777216)]) = bcells (bs) ++ [.int .u8 (x / 16777216)] := by
      rw [show bs ++ [b8 (x / 16777216)] = (bs) ++ [b8 (x / 16777216)] from by simp, bcells_append]
      simp only [bcells, List.map_cons, List.map_nil]
      rw [b8_toNat]
      rw [Int.emod_eq_of_lt (by omega) (by omega)]
    rw [e]
    exact hown
  clear hown hg
  go_wp2
  rw [rounds_succ]
  go_wp2_with (first
    | (at_builtin; refine ev_append1 w.heap.size rfl (.tmp 14) (.tmp 20) 66 5 _ 1 1 rfl Try.underlying66 infoByte rfl (by decide) (by decide) _ (n + 1) (bcells (bs ++ [b8 (x / 16777216)])) [.int .u8 (x / 65536 % 256)] rfl rfl rfl (by simp [Value.oneCell']) Ho2.out hs2 (by omega) ?_)
    | go_in)
  intro g3 c3 w3 hown hg _
  have hB3 : Hid (Below w.heap.size w w3) := hB2.out.grown hg hs2 (fun q hq => (Ho2.out.lt q hq).1)
  have hs3 := hB3.out.size
  have Ho3 : Hid (w3.ownsRow w.heap.size 5 1 (.slice (some ⟨g3, 0, none⟩) ((n + 1) + 1) c3) ((n + 1) + 1) (bcells (bs ++ [b8 (x / 16777216), b8 (x / 65536)]))) := by
    have e : bcells (bs ++ [b8 (x / 16777216), b8 (x / 65536)]) = bcells (bs ++ [b8 (x / 16777216)]) ++ [.int .u8 (x / 65536 % 256)] := by
      rw [show bs ++ [b8 (x / 16777216), b8 (x / 65536)] = (bs ++ [b8 (x / 16777216)]) ++ [b8 (x / 65536)] from by simp, bcells_append]
      simp only [bcells, List.map_cons, List.map_nil]
      rw [b8_toNat]
    rw [e]
    exact hown
  clear hown hg
  go_wp2
  rw [rounds_succ]
  go_wp2_with (first
    | (at_builtin; refine ev_append1 w.heap.size rfl (.tmp 14) (.tmp 20) 66 5 _ 1 1 rfl Try.underlying66 infoByte rfl (by decide) (by decide) _ (n + 2) (bcells (bs ++ [b8 (x / 16777216), b8 (x / 65536)])) [.int .u8 (x / 256 % 256)] rfl rfl rfl (by simp [Value.oneCell']) Ho3.out hs3 (by omega) ?_)
    | go_in)
  intro g4 c4 w4 hown hg _
  have hB4 : Hid (Below w.heap.size w w4) := hB3.out.grown hg hs3 (fun q hq => (Ho3.out.lt q hq).1)
  have hs4 := hB4.out.size
  have Ho4 : Hid (w4.ownsRow w.heap.size 5 1 (.slice (some ⟨g4, 0, none⟩) ((n + 2) + 1) c4) ((n + 2) + 1) (bcells (bs ++ [b8 (x / 16777216), b8 (x / 65536), b8 (x / 256)]))) := by
    have e : bcells (bs ++ [b8 (x / 16777216), b8 (x / 65536), b8 (x / 256)]) = bcells (bs ++ [b8 (x / 16777216), b8 (x / 65536)]) ++ [.int .u8 (x / 256 % 256)] := by
      rw [show bs ++ [b8 (x / 16777216), b8 (x / 65536), b8 (x / 256)] = (bs ++ [b8 (x / 16777216), b8 (x / 65536)]) ++ [b8 (x / 256)] from by simp, bcells_append]
      simp only [bcells, List.map_cons, List.map_nil]
      rw [b8_toNat]
    rw [e]
    exact hown
  clear hown hg
  go_wp2
  rw [rounds_succ]
  go_wp2_with (first
    | (at_builtin; refine ev_append1 w.heap.size rfl (.tmp 14) (.tmp 20) 66 5 _ 1 1 rfl Try.underlying66 infoByte rfl (by decide) (by decide) _ (n + 3) (bcells (bs ++ [b8 (x / 16777216), b8 (x / 65536), b8 (x / 256)])) [.int .u8 (x % 256)] rfl rfl rfl (by simp [Value.oneCell']) Ho4.out hs4 (by omega) ?_)
    | go_in)
  intro g5 c5 w5 hown hg _
  have hB5 : Hid (Below w.heap.size w w5) := hB4.out.grown hg hs4 (fun q hq => (Ho4.out.lt q hq).1)
  have hs5 := hB5.out.size
  have Ho5 : Hid (w5.ownsRow w.heap.size 5 1 (.slice (some ⟨g5, 0, none⟩) ((n + 3) + 1) c5) ((n + 3) + 1) (bcells (bs ++ [b8 (x / 16777216), b8 (x / 65536), b8 (x / 256), b8 x]))) := by
    have e : bcells (bs ++ [b8 (x / 16777216), b8 (x / 65536), b8 (x / 256), b8 x]) = bcells (bs ++ [b8 (x / 16777216), b8 (x / 65536), b8 (x / 256)]) ++ [.int .u8 (x % 256)] := by
      rw [show bs ++ [b8 (x / 16777216), b8 (x / 65536), b8 (x / 256), b8 x] = (bs ++ [b8 (x / 16777216), b8 (x / 65536), b8 (x / 256)]) ++ [b8 x] from by simp, bcells_append]
      simp only [bcells, List.map_cons, List.map_nil]
      rw [b8_toNat]
    rw [e]
    exact hown
  clear hown hg
  go_wp2
  rw [rounds_succ]
  go_wp2
  go_ret
  exact ⟨some ⟨g5, 0, none⟩, c5, rfl, Ho5.out, hB5.out⟩
theorem ref_Put (w : World) (A : Option Addr) (n c : Nat) (bs : List UInt8) (x : Int) (hn : bs.length = n) (hm : n ≤ 140737488000000) (hr : Rd w A (bcells bs)) (h0 : 0 ≤ x) (h1 : x < 4294967296) :
    Calls Try.prog 56 #[.slice A n c, .int .u32 x] w fun e w' => ∃ A' c', e = .returned (.slice A' (n + 4) c') ∧ w'.ownsRow w.heap.size 5 1 (.slice A' (n + 4) c') (n + 4) (bcells (bs ++ put4 x)) ∧ Below w.heap.size w w' := by
  have hl : (bcells bs).length = n * 1 := by rw [bcells_length, hn, Nat.mul_one]
  have HL := Lib.hid hl
  have h0' := Lib.hid (own_nilrow w 5 1)
  have hr2 : Hid (Rd (w.alloc (.cells #[] 5)) A (bcells bs)) := hr.below ((Below.refl _ _).alloc (Nat.le_refl _) _)
  clear hr hn hl
  go_enter Try.func56, Try.ntmps56
  go_wp2_with (first
     | (at_builtin; refine ev_appendR w.heap.size rfl (.tmp 5) (.tmp 6) 66 5 _ 1 1 rfl Try.underlying66 infoByte rfl (by decide) (by decide) _ 0 [] A n c (bcells bs) rfl rfl HL.out hr2.out (bcells_one bs) h0'.out (by simp) (by omega) ?_)
     | go_in)
  intro A1 c1 w1 hown1 hg1 _
  have hB1 := Lib.hid (Below.grown (Below.alloc (Below.refl w.heap.size w) (Nat.le_refl _) (.cells #[] 5)) hg1 (by simp) (fun k hk => by
      have : w.heap.size = k := by simpa [Value.ownBlock] using hk
      omega))
  have hs1 := hB1.out.size
  have Ho1 := Lib.hid hown1
  clear hown1 hg1
  have hrd : Hid (Rd (w1.alloc (.cells #[.int .u8 (x / 16777216), .int .u8 (x / 65536 % 256), .int .u8 (x / 256 % 256), .int .u8 (x % 256)] 5)) (some ⟨w1.heap.size, 0, none⟩) (bcells (put4 x))) := by
    have e : bcells (put4 x) = [.int .u8 (x / 16777216), .int .u8 (x / 65536 % 256), .int .u8 (x / 256 % 256), .int .u8 (x % 256)] := by
      simp only [bcells, put4, List.map_cons, List.map_nil, b8_toNat]
      rw [Int.emod_eq_of_lt (a := x / 16777216) (by omega) (by omega)]
    rw [e]
    exact lit_rd w1 [_, _, _, _] _
  have ho1' := Ho1.out.alloc (.cells #[.int .u8 (x / 16777216), .int .u8 (x / 65536 % 256), .int .u8 (x / 256 % 256), .int .u8 (x % 256)] 5)
  have HO := Lib.hid ho1'
  clear ho1'
  go_wp2_with (first
     | (at_builtin; refine ev_appendR w.heap.size rfl (.tmp 7) (.tmp 19) 66 5 _ 1 1 rfl Try.underlying66 infoByte rfl (by decide) (by decide) _ n (bcells bs) (some ⟨w1.heap.size, 0, none⟩) 4 4 (bcells (put4 x)) rfl rfl rfl hrd.out (bcells_one _) HO.out (by simp; omega) (by omega) ?_)
     | go_in)
  intro A2 c2 w2 hown2 hg2 _
  rw [← bcells_append] at hown2
  have hB2 := Lib.hid (Below.grown (hB1.out.alloc hs1 _) hg2 (by simp; omega) (fun k hk => (HO.out.lt k hk).1))
  have Ho2 := Lib.hid hown2
  clear hown2 hg2
  go_wp2
  go_ret
  exact ⟨A2, c2, rfl, Ho2.out, hB2.out⟩
theorem take_get {bs : List UInt8} {at_ k : Nat} {b : UInt8} (h : bs[at_ + k]? = some b) : (bs.drop at_).take (k + 1) = (bs.drop at_).take k ++ [b] :=
  take_snoc' _ k b (by rw [List.getElem?_drop]; exact h)
theorem rd_drop {w : World} {ad : Addr} {vs : List Value} (h : Rd w (some ad) vs) (k : Nat) : Rd w (some (ad.add k)) (vs.drop k) := by
  intro hne
  obtain ⟨ad', he, hc⟩ := h (fun e => hne (by rw [e]; simp))
  injection he with he
  subst he
  refine ⟨_, rfl, fun j v hv => ?_⟩
  rw [List.getElem?_drop] at hv
  have := hc (k + j) v hv
  have e : (ad.add k).add j = ad.add (k + j) := by
    unfold Addr.add
    by_cases h1 : k = 0 <;> by_cases h2 : j = 0 <;> simp [h1, h2, Nat.add_assoc]
  rw [e]; exact this
theorem rd_take {w : World} {A : Option Addr} {vs : List Value} (h : Rd w A vs) (k : Nat) : Rd w A (vs.take k) := by
  intro hne
  obtain ⟨ad', he, hc⟩ := h (fun e => hne (by rw [e]; simp))
  exact ⟨ad', he, fun j v hv => hc j v (by rw [List.getElem?_take] at hv; split at hv; exact hv; cases hv)⟩
/-- 'xs[lo:hi]': one run. -/
theorem slice_mid {P : Program} (t e : TypeId) (kl kh : IntKind) {z : Value} {size bytes : Nat} (ht : P.underlying t = some (.slice e)) (hinfo : (P.info? e).map (fun i => (i.zero, i.size, i.bytes)) = some (some z, size, bytes)) (A : Option Addr) (n c lo hi : Nat) (hlo : lo ≤ hi) (hhi : hi ≤ c) (x y : Int) (hx : x = lo) (hy : y = hi) :
    ∀ W : World, (Instr.slice t (.slice A n c) (some (.int kl x)) (some (.int kh y)) none).run P W = .ok (.slice (if c = lo then A else A.map (·.add (lo * size))) (hi - lo) (c - lo)) W := by
  intro W
  subst hx hy
  obtain ⟨i, hi', hz0, hz1, hz2⟩ := info_parts hinfo
  have hel : P.elem t = e := by simp [Program.elem, ht]
  have hu : P.underlying t = some (.slice (P.elem t)) := by rw [hel]; exact ht
  rw [run_slice_lh W t A n c hu kl kh (lo : Int) (hi : Int) (Int.natCast_nonneg _) (by omega) (by omega), hel]
  simp [sizeOf, typeInfo, hi', hz1, sliced, Result.andThen]
theorem get4_out {bs : List UInt8} {at_ : Int} (h : at_ < 0 ∨ at_ > (bs.length : Int) - 4) : get4 bs at_ = 0 := by unfold get4; rw [if_pos h]
theorem get4_in {bs : List UInt8} {k : Nat} (h : k + 4 ≤ bs.length) : get4 bs (k : Int) = beNum ((bs.drop k).take 4) := by
  unfold get4
  rw [if_neg (by omega)]
  simp
theorem sum_Get (w : World) (A : Option Addr) (n c : Nat) (bs : List UInt8) (at_ : Int) (hn : bs.length = n) (hc : n ≤ c) (hm : n ≤ 140737488355328) (hr : Rd w A (bcells bs)) :
    Calls Try.prog 64 #[.slice A n c, .int .i64 at_] w fun e w' => e = .returned (.int .u32 (get4 bs at_)) ∧ w = w' := by
  have HR := Lib.hid hr
  have HN := Lib.hid hn
  clear hr
  by_cases h0 : at_ < 0
  · have HG := Lib.hid (get4_out (bs := bs) (at_ := at_) (.inl h0))
    clear hn
    go_enter Try.func64, Try.ntmps64
    go_wp2
    go_ret
    exact ⟨by rw [HG.out]; rfl, rfl⟩
  · by_cases h1 : at_ > (n : Int) - 4
    · have HG := Lib.hid (get4_out (bs := bs) (at_ := at_) (.inr (by rw [hn]; exact h1)))
      clear hn
      go_enter Try.func64, Try.ntmps64
      go_wp2
      go_ret
      exact ⟨by rw [HG.out]; rfl, rfl⟩
    · obtain ⟨k, rfl⟩ := Int.eq_ofNat_of_zero_le (show 0 ≤ at_ by omega)
      have HG := Lib.hid (get4_in (bs := bs) (k := k) (by omega))
      have hsl := slice_mid 66 5 .i64 .i64 Try.underlying66 infoByte A n c k (k + 4) (by omega) (by omega) (k : Int) ((k : Int) + 4) rfl (by omega)
      obtain ⟨ad, rfl, _⟩ := HR.out (fun e => by have := congrArg List.length e; simp [bcells] at this; subst this; simp at hn; omega)
      have hk4 : k + 4 ≤ n := by omega
      have hne : (if c = k then some ad else (some ad).map (·.add (k * 1))) = some (ad.add k) := by rw [if_neg (by omega), Nat.mul_one]; rfl
      have hne2 : k + 4 - k = 4 := by omega
      rw [hne, hne2] at hsl
      have HR4 : Hid (Rd w (some (ad.add k)) (bcells ((bs.drop k).take 4))) := by
        have h := rd_take (rd_drop HR.out k) 4
        rw [bcells_drop, bcells_take] at h
        exact h
      have hl4 : Hid (((bs.drop k).take 4).length = 4) := by show _ = _; rw [List.length_take, List.length_drop]; omega
      clear hne hne2 hn
      go_enter Try.func64, Try.ntmps64
      go_wp2
      go_loop [5, 23] (fun h i => ∃ q : Nat, q ≤ 4 ∧ i = .int .i64 q ∧ ∃ x, h = .int .u32 x ∧ Hid (x = beNum (((bs.drop k).take 4).take q))) (fun _ i => 4 - (intOf i).toNat)
      case atStart => exact ⟨0, by omega, rfl, _, rfl, rfl⟩
      case round =>
        obtain ⟨q, hq, rfl, x, rfl, HX⟩ := hrel
        by_cases hlt : q < 4
        · obtain ⟨ad', b, he, hb, hcell⟩ := rd_byte HR4.out q (by rw [hl4.out]; exact hlt)
          injection he with he
          subst he
          have hsm := beNum_small (((bs.drop k).take 4).take q) (Nat.le_trans (List.length_take_le _ _) (by omega))
          rw [← HX.out] at hsm
          have hx0 : 0 ≤ x := hsm.1
          have hx1 : x < 16777216 := hsm.2
          have hbl := byte_lt b
          have hor := be_or x hx0 hx1 b
          have Hb := Lib.hid hb
          clear hb hsm
          go_wp2
          go_round
          case rel => exact ⟨q + 1, by omega, by go_num, _, rfl, by show _ = _; rw [take_snoc' _ q b Hb.out, beNum_snoc, HX.out]⟩
          case measure => simp [intOf]; omega
        · go_wp2
          go_ret
          refine ⟨?_, rfl⟩
          have h := HX.out
          rw [List.take_of_length_le (by rw [hl4.out]; omega)] at h
          rw [HG.out, ← h]
          rfl
theorem be4 (l : List UInt8) (a b c d : UInt8) (h0 : l[0]? = some a) (h1 : l[1]? = some b) (h2 : l[2]? = some c) (h3 : l[3]? = some d) : beNum (l.take 4) = a.toNat * 16777216 + b.toNat * 65536 + c.toNat * 256 + d.toNat := by
  match l, h0, h1, h2, h3 with
  | _ :: _ :: _ :: _ :: _, h0, h1, h2, h3 =>
    simp at h0 h1 h2 h3
    subst h0 h1 h2 h3
    simp only [beNum, List.take_succ_cons, List.take_zero, List.foldl_cons, List.foldl_nil]
    omega
set_option maxHeartbeats 1000000 in
theorem ref_Get (w : World) (A : Option Addr) (n c : Nat) (bs : List UInt8) (at_ : Int) (hn : bs.length = n) (hc : n ≤ c) (hm : n ≤ 140737488355328) (hr : Rd w A (bcells bs)) :
    Calls Try.prog 82 #[.slice A n c, .int .i64 at_] w fun e w' => e = .returned (.int .u32 (get4 bs at_)) ∧ Qt w w' := by
  have HR := Lib.hid hr
  have HN := Lib.hid hn
  clear hr
  by_cases h0 : at_ < 0
  · have HG := Lib.hid (get4_out (bs := bs) (at_ := at_) (.inl h0))
    clear hn
    go_enter Try.func82, Try.ntmps82
    go_wp2
    go_ret
    exact ⟨by rw [HG.out]; rfl, Qt.refl _⟩
  · by_cases h1 : at_ > (n : Int) - 4
    · have HG := Lib.hid (get4_out (bs := bs) (at_ := at_) (.inr (by rw [hn]; exact h1)))
      clear hn
      go_enter Try.func82, Try.ntmps82
      go_wp2
      go_ret
      exact ⟨by rw [HG.out]; rfl, Qt.refl _⟩
    · obtain ⟨k, rfl⟩ := Int.eq_ofNat_of_zero_le (show 0 ≤ at_ by omega)
      have HG := Lib.hid (get4_in (bs := bs) (k := k) (by omega))
      obtain ⟨ad, a, rfl, ha, ca⟩ := rd_byte HR.out k (by omega)
      obtain ⟨ad', b, he, hb, cb⟩ := rd_byte HR.out (k + 1) (by omega)
      injection he with he; subst he
      obtain ⟨ad', d, he, hd, cd⟩ := rd_byte HR.out (k + 2) (by omega)
      injection he with he; subst he
      obtain ⟨ad', f, he, hf, cf⟩ := rd_byte HR.out (k + 3) (by omega)
      injection he with he; subst he
      have hbe := be4 (bs.drop k) a b d f (by rw [List.getElem?_drop]; simpa using ha) (by rw [List.getElem?_drop]; exact hb) (by rw [List.getElem?_drop]; exact hd) (by rw [List.getElem?_drop]; exact hf)
      have HBE := Lib.hid hbe
      have l1 := byte_lt a
      have l2 := byte_lt b
      have l3 := byte_lt d
      have l4 := byte_lt f
      have o1 : bits BinOp.or IntKind.u32 ((a.toNat : Int) * 16777216) ((b.toNat : Int) * 65536) = (a.toNat : Int) * 16777216 + (b.toNat : Int) * 65536 := bits_join .u32 32 (by decide) wraps_u32 24 _ _ (by omega) (by omega) (by omega) (by omega) (by omega) (by omega)
      have o2 : bits BinOp.or IntKind.u32 ((a.toNat : Int) * 16777216 + (b.toNat : Int) * 65536) ((d.toNat : Int) * 256) = (a.toNat : Int) * 16777216 + (b.toNat : Int) * 65536 + (d.toNat : Int) * 256 := bits_join .u32 32 (by decide) wraps_u32 16 _ _ (by omega) (by omega) (by omega) (by omega) (by omega) (by omega)
      have o3 : bits BinOp.or IntKind.u32 ((a.toNat : Int) * 16777216 + (b.toNat : Int) * 65536 + (d.toNat : Int) * 256) (f.toNat : Int) = (a.toNat : Int) * 16777216 + (b.toNat : Int) * 65536 + (d.toNat : Int) * 256 + f.toNat := bits_join .u32 32 (by decide) wraps_u32 8 _ _ (by omega) (by omega) (by omega) (by omega) (by omega) (by omega)
      have b0 : (k : Int) < (n : Int) := by omega
      have b1 : (k : Int) + 1 < (n : Int) := by omega
      have b2 : (k : Int) + 2 < (n : Int) := by omega
      have b3 : (k : Int) + 3 < (n : Int) := by omega
      have b1' : 0 ≤ (k : Int) + 1 := by omega
      have b2' : 0 ≤ (k : Int) + 2 := by omega
      have b3' : 0 ≤ (k : Int) + 3 := by omega
      have t1 : ((k : Int) + 1).toNat = k + 1 := by omega
      have t2 : ((k : Int) + 2).toNat = k + 2 := by omega
      have t3 : ((k : Int) + 3).toNat = k + 3 := by omega
      have cb' : w.cell? ⟨ad.block, ad.off + (k + 1), none⟩ = some (.int .u8 (b.toNat : Int)) := cb
      have cd' : w.cell? ⟨ad.block, ad.off + (k + 2), none⟩ = some (.int .u8 (d.toNat : Int)) := cd
      have cf' : w.cell? ⟨ad.block, ad.off + (k + 3), none⟩ = some (.int .u8 (f.toNat : Int)) := cf
      have w1 : IntKind.i64.wrap ((k : Int) + 1) = (k : Int) + 1 := IntWalk.i64_in _ (by omega)
      have w2 : IntKind.i64.wrap ((k : Int) + 2) = (k : Int) + 2 := IntWalk.i64_in _ (by omega)
      have w3 : IntKind.i64.wrap ((k : Int) + 3) = (k : Int) + 3 := IntWalk.i64_in _ (by omega)
      have u1 : IntKind.u32.wrap (a.toNat : Int) = a.toNat := IntWalk.u32_in _ (by omega)
      have u2 : IntKind.u32.wrap (b.toNat : Int) = b.toNat := IntWalk.u32_in _ (by omega)
      have u3 : IntKind.u32.wrap (d.toNat : Int) = d.toNat := IntWalk.u32_in _ (by omega)
      have u4 : IntKind.u32.wrap (f.toNat : Int) = f.toNat := IntWalk.u32_in _ (by omega)
      have v1 : IntKind.u32.wrap ((a.toNat : Int) * 16777216) = (a.toNat : Int) * 16777216 := IntWalk.u32_in _ (by omega)
      have v2 : IntKind.u32.wrap ((b.toNat : Int) * 65536) = (b.toNat : Int) * 65536 := IntWalk.u32_in _ (by omega)
      have v3 : IntKind.u32.wrap ((d.toNat : Int) * 256) = (d.toNat : Int) * 256 := IntWalk.u32_in _ (by omega)
      clear ha hb hd hf hn hbe
      go_enter Try.func82, Try.ntmps82
      go_wp2
      go_quiet (fail)
      go_wp2
      go_ret
      exact ⟨by rw [HG.out, HBE.out]; rfl, (Qt.refl _).step _⟩
theorem conv_str {P : Program} (w : World) (src e dst : TypeId) (hs : P.underlying src = some (.slice e)) (he : P.underlying e = some (.int .u8)) (hd : P.underlying dst = some .string) (A : Option Addr) (n c : Nat) (bs : List UInt8) (hn : bs.length = n) (hr : Rd w A (bcells bs)) :
    (convert src dst (.slice A n c)).run P w = .ok (.string ⟨bs.toArray⟩) w := by
  match A with
  | none =>
    have hb : bs = [] := by
      by_cases h : bs = []
      · exact h
      · obtain ⟨ad, h1, _⟩ := hr (by simpa [bcells] using h)
        simp at h1
    subst hb
    rw [run_convert_bytes_nil w src e hs he n c dst hd]
    rfl
  | some ad =>
    have hl : (loadCells ad n).run P w = .ok ((bs.map fun b => (b.toNat : Int)).map (Value.int .u8)).toArray w := by
      have h := run_loadCells_list (P := P) w ad (bcells bs) (fun j v hj => by
        obtain ⟨ad', h1, h2⟩ := hr (by intro h; rw [h] at hj; simp at hj)
        cases h1
        exact h2 j v hj)
      rw [bcells_length, hn] at h
      rw [h]
      simp [bcells]
    rw [run_convert_bytes_string w src dst e _ n c hs he hd, run_bytesToString w _ n c _ hl, foldl_push_bytes]
    have : ((bs.map fun b => (b.toNat : Int)).map fun n => UInt8.ofNat n.toNat) = bs := by
      rw [List.map_map]
      conv => rhs; rw [← List.map_id bs]
      apply List.map_congr_left
      intro b _
      simp
    rw [this]
    simp [ByteArray.empty, ByteArray.emptyWithCapacity]
    rfl
theorem str_eq_iff (a b : List UInt8) : ((⟨a.toArray⟩ : ByteArray) = ⟨b.toArray⟩) ↔ a = b := by simp
end Go.Proofs.Ytdbhhnphpjdmbaa
