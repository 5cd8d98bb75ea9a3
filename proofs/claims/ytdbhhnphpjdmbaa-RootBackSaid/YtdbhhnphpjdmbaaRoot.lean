/- Roots: plain words, and contracts of root.Right, Home, Bytes, Read and of the reference's. Conditions: an epoch is a number of four bytes. -/
import Derived.Test.YtdbhhnphpjdmbaaSum
import Derived.Test.YtdbhhnphpjdmbaaWZeros
import Derived.Deep.RegionHeld3
import Derived.Lib.SlBytesConst
namespace Go.Proofs.Ytdbhhnphpjdmbaa
open Go.RowKit
set_option maxRecDepth 100000
set_option linter.unusedVariables false
set_option linter.unusedSimpArgs false
structure Rt where
  log : Int
  pages : Int
  epoch : Int
deriving DecidableEq
def Rt.val (r : Rt) : Value := .agg #[.int .i64 r.log, .int .i64 r.pages, .int .u32 r.epoch]
def Rt.ok (r : Rt) : Prop := 0 ≤ r.epoch ∧ r.epoch < 4294967296
def Rt.zero : Rt := ⟨0, 0, 0⟩
def rightB (r : Rt) (n : Int) : Bool := decide (1 ≤ r.log) && (decide (r.log ≤ 64) && (decide (1 ≤ r.pages) && (decide (r.pages ≤ 64) && (decide (2 + r.log + r.pages ≤ n) && decide (1 ≤ r.epoch)))))
theorem rightB_iff (r : Rt) (n : Int) : rightB r n = true ↔ 1 ≤ r.log ∧ r.log ≤ 64 ∧ 1 ≤ r.pages ∧ r.pages ≤ 64 ∧ 2 + r.log + r.pages ≤ n ∧ 1 ≤ r.epoch := by simp [rightB]
def homeOf (r : Rt) (page : Int) : Int := if page < 0 ∨ page ≥ r.pages then -1 else wrap64 (wrap64 (2 + r.log) + page)
def root16 (r : Rt) : List UInt8 := [69, 78, 71, 49] ++ put4 (r.log % 4294967296) ++ put4 (r.pages % 4294967296) ++ put4 r.epoch
def rootBytes (r : Rt) : List UInt8 := root16 r ++ put4 (fnv (root16 r)) ++ List.replicate 44 0
theorem root16_length (r : Rt) : (root16 r).length = 16 := by simp [root16, put4]
theorem rootBytes_length (r : Rt) : (rootBytes r).length = 64 := by simp [rootBytes, root16_length, put4]
def unroot (b : List UInt8) : Option Rt :=
  if b.length = 64 ∧ get4 b 4 ≤ 2147483647 ∧ get4 b 8 ≤ 2147483647 ∧ b = rootBytes ⟨get4 b 4, get4 b 8, get4 b 12⟩ then some ⟨get4 b 4, get4 b 8, get4 b 12⟩ else none

set_option maxHeartbeats 1000000 in
theorem root_Right (r : Rt) (n : Int) (w : World) (hn : n ≤ 9223372036854775807) : Calls Try.prog 52 #[r.val, .int .i64 n] w fun e w' => e = .returned (.bool (rightB r n)) ∧ ∃ o, w' = w.alloc o := by
  unfold Rt.val rightB
  by_cases h1 : 1 ≤ r.log
  · by_cases h2 : r.log ≤ 64
    · by_cases h3 : 1 ≤ r.pages
      · by_cases h4 : r.pages ≤ 64
        · by_cases h5 : 2 + r.log + r.pages ≤ n
          all_goals
            go_enter Try.func52, Try.ntmps52
            go_wp2
            go_ret
            exact ⟨by first | (simp [h1, h2, h3, h4, h5]; done) | (simp; omega), _, rfl⟩
        · go_enter Try.func52, Try.ntmps52
          go_wp2
          go_ret
          exact ⟨by simp; omega, _, rfl⟩
      · go_enter Try.func52, Try.ntmps52
        go_wp2
        go_ret
        exact ⟨by simp; omega, _, rfl⟩
    · go_enter Try.func52, Try.ntmps52
      go_wp2
      go_ret
      exact ⟨by simp; omega, _, rfl⟩
  · go_enter Try.func52, Try.ntmps52
    go_wp2
    go_ret
    exact ⟨by simp; omega, _, rfl⟩
set_option maxHeartbeats 1000000 in
theorem ref_Right (r : Rt) (n : Int) (w : World) (hn : n ≤ 9223372036854775807) : Calls Try.prog 53 #[r.val, .int .i64 n] w fun e w' => e = .returned (.bool (rightB r n)) ∧ ∃ o, w' = w.alloc o := by
  unfold Rt.val rightB
  by_cases h1 : 1 ≤ r.log
  · by_cases h2 : r.log ≤ 64
    · by_cases h3 : 1 ≤ r.pages
      · by_cases h4 : r.pages ≤ 64
        · by_cases h5 : 2 + r.log + r.pages ≤ n
          all_goals
            go_enter Try.func53, Try.ntmps53
            go_wp2
            go_ret
            exact ⟨by first | (simp [h1, h2, h3, h4, h5]; done) | (simp; omega), _, rfl⟩
        · go_enter Try.func53, Try.ntmps53
          go_wp2
          go_ret
          exact ⟨by simp; omega, _, rfl⟩
      · go_enter Try.func53, Try.ntmps53
        go_wp2
        go_ret
        exact ⟨by simp; omega, _, rfl⟩
    · go_enter Try.func53, Try.ntmps53
      go_wp2
      go_ret
      exact ⟨by simp; omega, _, rfl⟩
  · go_enter Try.func53, Try.ntmps53
    go_wp2
    go_ret
    exact ⟨by simp; omega, _, rfl⟩
theorem root_Home (r : Rt) (p : Int) (w : World) : Calls Try.prog 54 #[r.val, .int .i64 p] w fun e w' => e = .returned (.int .i64 (homeOf r p)) ∧ ∃ o, w' = w.alloc o := by
  unfold Rt.val homeOf
  by_cases h1 : p < 0
  · go_enter Try.func54, Try.ntmps54
    go_wp2
    go_ret
    exact ⟨rfl, _, rfl⟩
  · by_cases h2 : p ≥ r.pages
    · go_enter Try.func54, Try.ntmps54
      go_wp2
      go_ret
      exact ⟨rfl, _, rfl⟩
    · go_enter Try.func54, Try.ntmps54
      go_wp2
      go_ret
      exact ⟨rfl, _, rfl⟩
theorem ref_Home (r : Rt) (p : Int) (w : World) : Calls Try.prog 55 #[r.val, .int .i64 p] w fun e w' => e = .returned (.int .i64 (homeOf r p)) ∧ ∃ o, w' = w.alloc o := by
  unfold Rt.val homeOf
  by_cases h1 : p < 0
  · go_enter Try.func55, Try.ntmps55
    go_wp2
    go_ret
    exact ⟨rfl, _, rfl⟩
  · by_cases h2 : p ≥ r.pages
    · go_enter Try.func55, Try.ntmps55
      go_wp2
      go_ret
      exact ⟨rfl, _, rfl⟩
    · go_enter Try.func55, Try.ntmps55
      go_wp2
      go_ret
      exact ⟨rfl, _, rfl⟩
section
variable {P : Program} {ops : Array Oper} {rest : List Oper} {o : Oper} {a : Act} {Q : Exit → Act → World → Prop}
/-- append(v, make([]byte, m)...) -/
theorem ev_appendZ {W : World} (base : Nat) (hgd : o.guard = none) (s x : Operand) (t ti e : TypeId)
    (ho : o.op = .call { callee := .builtin .append, args := #[s, x], argTypes := #[t, ti] })
    (ht : P.underlying t = some (.slice e)) {k : IntKind} (hti : P.underlying ti = some (.int k)) (hinfo : (P.info? e).map (fun i => (i.zero, i.size, i.bytes)) = some (some (.int .u8 0), 1, 1))
    (v : Value) (n : Nat) (bs : List UInt8) (kx : IntKind) (m : Nat) (y : Int) (hy : y = m) (hs : a.eval s = v) (hx : a.eval x = .int kx y) (HO : W.ownsRow base e 1 v n (bcells bs)) (hbase : base ≤ W.heap.size) (hl : n + m ≤ 140737488355328)
    (h : ∀ A1 c1 w1, w1.ownsRow base e 1 (.slice A1 (n + m) c1) (n + m) (bcells (bs ++ List.replicate m 0)) → W.grownBy w1 v.ownBlock → wpList P ops Q rest (a.put o.dst (.slice A1 (n + m) c1)) w1) :
    wpList P ops Q (o :: rest) a W := by
  subst hy
  obtain ⟨i0, hi, hz0, hz1, hz2⟩ := info_parts hinfo
  have hz : (Builtin.zeroCells (Value.int .u8 0).cells m).toList = bcells (List.replicate m 0) := by
    have h1 := toList_madeCells_one (.int .u8 0) m
    rw [show Builtin.zeroCells (Value.int .u8 0).cells m = madeCells #[.int .u8 0] m by unfold Builtin.zeroCells madeCells; simp [Value.cells]]
    rw [h1]
    simp [bcells]
  obtain ⟨v1, w1, hr1, hown, hg, _⟩ := Go.Proofs.YtdbhhnphpjdmbaaW.PrintWords.run_append_zeros (P := P) W base t ti o.type e i0 (.int .u8 0) 1 1 ht hti hi hz0 hz1 hz2 rfl (by decide) (by decide) v n (bcells bs) HO kx m (by rw [hz]; exact bcells_one _) (by omega) hbase
  rw [hz, ← bcells_append] at hown
  obtain ⟨A1, c1, rfl⟩ : ∃ A c, v1 = .slice A (n + m) c := by
    rcases hown.2 with ⟨rfl, h0⟩ | ⟨g, cap, cur, rfl, _⟩
    · exact ⟨none, 0, by rw [h0]⟩
    · exact ⟨_, cap, rfl⟩
  refine wpList_plain hgd fun K hK => ?_
  unfold Oper.wp execOp
  simp only [ho, resolve, invoke, builtin, Sem.run_bind, Sem.run_pure, Result.andThen_ok, List.map_toArray, List.map_cons, List.map_nil, hs, hx, hr1]
  exact hK _ _ (h A1 c1 w1 hown hg)
end
theorem mod32 (x : Int) : 0 ≤ x % 4294967296 ∧ x % 4294967296 < 4294967296 := by omega
def rootPart (r : Rt) (k : Nat) : List UInt8 := if k = 0 then [69, 78, 71, 49] else if k = 1 then [69, 78, 71, 49] ++ put4 (r.log % 4294967296) else if k = 2 then [69, 78, 71, 49] ++ put4 (r.log % 4294967296) ++ put4 (r.pages % 4294967296) else root16 r
theorem rootPart_length (r : Rt) (k : Nat) (hk : k ≤ 3) : (rootPart r k).length = 4 + 4 * k := by
  match k, hk with
  | 0, _ => rfl
  | 1, _ => simp [rootPart, put4]
  | 2, _ => simp [rootPart, put4]
  | 3, _ => simp [rootPart, root16_length]
def rootNum (r : Rt) (k : Nat) : Int := if k = 0 then r.log % 4294967296 else if k = 1 then r.pages % 4294967296 else r.epoch
theorem rootPart_succ (r : Rt) (k : Nat) (hk : k < 3) : rootPart r k ++ put4 (rootNum r k) = rootPart r (k + 1) := by
  match k, hk with
  | 0, _ => simp [rootPart, rootNum]
  | 1, _ => simp [rootPart, rootNum]
  | 2, _ => simp [rootPart, rootNum, root16]
theorem rootNum_range (r : Rt) (hr : r.ok) (k : Nat) : 0 ≤ rootNum r k ∧ rootNum r k < 4294967296 := by
  unfold rootNum Rt.ok at *
  split
  · omega
  · split <;> omega
theorem rootPart_rd (r : Rt) (w : World) (t : TypeId) : Rd (w.alloc (.cells #[.int .u8 69, .int .u8 78, .int .u8 71, .int .u8 49] t (4, 5))) (some ⟨w.heap.size, 0, none⟩) (bcells (rootPart r 0)) := fun _ => ⟨_, rfl, fun j v hv => by
  rw [add_at]
  show (match (w.heap.push _)[w.heap.size]? with | some (.cells cs _ _) => cs[j]? | _ => none) = some v
  simp only [Array.getElem?_push_size]
  rw [← hv, show bcells (rootPart r 0) = [.int .u8 69, .int .u8 78, .int .u8 71, .int .u8 49] by simp [bcells, rootPart]]
  simp⟩
set_option maxHeartbeats 2000000 in
theorem root_Bytes (r : Rt) (hr : r.ok) (w : World) : Calls Try.prog 29 #[r.val] w fun e w' => ∃ A c, e = .returned (.slice A 64 c) ∧ w'.ownsRow w.heap.size 5 1 (.slice A 64 c) 64 (bcells (rootBytes r)) ∧ Below w.heap.size w w' := by
  have HK := Lib.hid hr
  have hr0 := hr.1
  have hr1 := hr.2
  have hcv : ∀ (o : Obj) (C : Array Value) (n c : Nat), (convert 66 66 (.slice (some ⟨w.heap.size + 1, 0, none⟩) n c)).run Try.prog ((w.alloc o).alloc (.cells C 5)) = .ok (.slice (some ⟨w.heap.size + 1, 0, none⟩) n c) ((w.alloc o).alloc (.cells C 5 (C.size, C.size + 1))) := fun o C n c => by
    have h := Lib.run_convert_bytes_const (P := Try.prog) (w.alloc o) 66 5 C n c (by kernel_rfl) (by kernel_rfl)
    have hs : (w.alloc o).heap.size = w.heap.size + 1 := World.size_alloc w o
    rwa [hs] at h
  clear hr
  unfold Rt.val
  go_enter Try.func29, Try.ntmps29
  go_wp2
  obtain ⟨W3, hW3⟩ : ∃ W3, W3 = ((w.alloc (.cells #[.int .i64 r.log, .int .i64 r.pages, .int .u32 r.epoch] 65)).alloc (.cells #[.int .u8 69, .int .u8 78, .int .u8 71, .int .u8 49] 5 (4, 5))).alloc (.cells #[.int .u32 (r.log % 4294967296), .int .u32 (r.pages % 4294967296), .int .u32 r.epoch] 61) := ⟨_, rfl⟩
  rw [← hW3]
  have hs1 : (w.alloc (.cells #[.int .i64 r.log, .int .i64 r.pages, .int .u32 r.epoch] 65)).heap.size = w.heap.size + 1 := World.size_alloc w _
  have hs2 : ((w.alloc (.cells #[.int .i64 r.log, .int .i64 r.pages, .int .u32 r.epoch] 65)).alloc (.cells #[.int .u8 69, .int .u8 78, .int .u8 71, .int .u8 49] 5 (4, 5))).heap.size = w.heap.size + 1 + 1 := (World.size_alloc _ _).trans (by rw [hs1])
  have hR0 : Hid (Rd W3 (some ⟨w.heap.size + 1, 0, none⟩) (bcells (rootPart r 0))) := by
    have h := rootPart_rd r (w.alloc (.cells #[.int .i64 r.log, .int .i64 r.pages, .int .u32 r.epoch] 65)) 5
    rw [hs1] at h
    rw [hW3]
    exact h.below ((Below.refl _ _).alloc (Nat.le_refl _) _)
  have hN : Hid (Rd W3 (some ⟨w.heap.size + 1 + 1, 0, none⟩) [.int .u32 (r.log % 4294967296), .int .u32 (r.pages % 4294967296), .int .u32 r.epoch]) := by
    have h := lit_rd ((w.alloc (.cells #[.int .i64 r.log, .int .i64 r.pages, .int .u32 r.epoch] 65)).alloc (.cells #[.int .u8 69, .int .u8 78, .int .u8 71, .int .u8 49] 5 (4, 5))) [.int .u32 (r.log % 4294967296), .int .u32 (r.pages % 4294967296), .int .u32 r.epoch] 61
    rw [hs2] at h
    rw [hW3]
    exact h
  have hB : Hid (Below w.heap.size w W3) := by
    rw [hW3]
    exact (((Below.refl _ _).alloc (Nat.le_refl _) _).alloc (by omega) _).alloc (by omega) _
  have hl3 : w.heap.size + 1 + 1 < W3.heap.size := by
    rw [hW3, World.size_alloc, hs2]
    omega
  clear hW3
  have hcell : ∀ (W : World), Hid (Rd W (some ⟨w.heap.size + 1 + 1, 0, none⟩) [.int .u32 (r.log % 4294967296), .int .u32 (r.pages % 4294967296), .int .u32 r.epoch]) → W.cell? ⟨w.heap.size + 1 + 1, 0, none⟩ = some (.int .u32 (r.log % 4294967296)) ∧ W.cell? ⟨w.heap.size + 1 + 1, 1, none⟩ = some (.int .u32 (r.pages % 4294967296)) ∧ W.cell? ⟨w.heap.size + 1 + 1, 2, none⟩ = some (.int .u32 r.epoch) := fun W h => by
    obtain ⟨ad, h1, h2⟩ := h.out (by simp)
    cases h1
    exact ⟨h2 0 _ rfl, by simpa [add_at] using h2 1 _ rfl, by simpa [add_at] using h2 2 _ rfl⟩
  have hcell := Lib.hid hcell
  have hml : 0 ≤ r.log % 4294967296 ∧ r.log % 4294967296 < 4294967296 := mod32 _
  have hmp : 0 ≤ r.pages % 4294967296 ∧ r.pages % 4294967296 < 4294967296 := mod32 _
  have Hml := Lib.hid hml
  have Hmp := Lib.hid hmp
  clear hml hmp
  refine wp_loop_rounds 4 ?_
  rw [rounds_succ]
  obtain ⟨hc0, hc1, hc2⟩ := hcell.out _ hN
  go_wp2_with (fail)
  refine (sum_Put _ _ _ _ (rootPart r 0) (r.log % 4294967296) (rootPart_length r 0 (by omega)) (by decide) hR0.out Hml.out.1 Hml.out.2).mono ?_
  rintro e0 w0 ⟨A0, c0, rfl, ho, hb⟩
  have hs0 := hb.size
  have hR1 : Hid (Rd w0 A0 (bcells (rootPart r 1))) := by
    have h := own_rd ho
    rw [← rootPart_succ r 0 (by omega)]
    exact h
  have hO1 : Hid (w0.ownsRow w.heap.size 5 1 (.slice A0 8 c0) 8 (bcells (rootPart r 1))) := by
    rw [← rootPart_succ r 0 (by omega)]
    exact own_base ho (by omega)
  have hN1 : Hid (Rd w0 (some ⟨w.heap.size + 1 + 1, 0, none⟩) _) := hN.out.below hb
  have hB1 : Hid (Below w.heap.size w w0) := below_more hB hb
  have hl0 : w.heap.size + 1 + 1 < w0.heap.size := by omega
  clear ho hb hc0 hc1 hc2
  go_wp2
  rw [rounds_succ]
  obtain ⟨hc0, hc1, hc2⟩ := hcell.out _ hN1
  go_wp2_with (fail)
  refine (sum_Put _ _ _ _ (rootPart r 1) (r.pages % 4294967296) (rootPart_length r 1 (by omega)) (by decide) hR1.out Hmp.out.1 Hmp.out.2).mono ?_
  rintro e1 w1 ⟨A1, c1, rfl, ho, hb⟩
  have hs1 := hb.size
  have hR2 : Hid (Rd w1 A1 (bcells (rootPart r 2))) := by
    have h := own_rd ho
    rw [← rootPart_succ r 1 (by omega)]
    exact h
  have hO2 : Hid (w1.ownsRow w.heap.size 5 1 (.slice A1 12 c1) 12 (bcells (rootPart r 2))) := by
    rw [← rootPart_succ r 1 (by omega)]
    exact own_base ho (by omega)
  have hN2 : Hid (Rd w1 (some ⟨w.heap.size + 1 + 1, 0, none⟩) _) := hN1.out.below hb
  have hB2 : Hid (Below w.heap.size w w1) := below_more hB1 hb
  have hl1 : w.heap.size + 1 + 1 < w1.heap.size := by omega
  clear ho hb hc0 hc1 hc2
  go_wp2
  rw [rounds_succ]
  obtain ⟨hc0, hc1, hc2⟩ := hcell.out _ hN2
  go_wp2_with (fail)
  refine (sum_Put _ _ _ _ (rootPart r 2) (r.epoch) (rootPart_length r 2 (by omega)) (by decide) hR2.out hr0 hr1).mono ?_
  rintro e2 w2 ⟨A2, c2, rfl, ho, hb⟩
  have hs2 := hb.size
  have hR3 : Hid (Rd w2 A2 (bcells (rootPart r 3))) := by
    have h := own_rd ho
    rw [← rootPart_succ r 2 (by omega)]
    exact h
  have hO3 : Hid (w2.ownsRow w.heap.size 5 1 (.slice A2 16 c2) 16 (bcells (rootPart r 3))) := by
    rw [← rootPart_succ r 2 (by omega)]
    exact own_base ho (by omega)
  have hN3 : Hid (Rd w2 (some ⟨w.heap.size + 1 + 1, 0, none⟩) _) := hN2.out.below hb
  have hB3 : Hid (Below w.heap.size w w2) := below_more hB2 hb
  have hl2 : w.heap.size + 1 + 1 < w2.heap.size := by omega
  clear ho hb hc0 hc1 hc2
  go_wp2
  rw [rounds_succ]
  go_wp2_with (fail)
  have hR3' : Hid (Rd w2 A2 (bcells (root16 r))) := hR3
  have hO3' : Hid (w2.ownsRow w.heap.size 5 1 (.slice A2 16 c2) 16 (bcells (root16 r))) := hO3
  have hf := fnv_range (root16 r)
  refine (sum_Of _ _ _ _ (root16 r) (root16_length r) (by decide) hR3'.out).mono ?_
  rintro e3 w3 ⟨rfl, rfl⟩
  go_wp2_with (fail)
  refine (sum_Put _ _ _ _ (root16 r) (fnv (root16 r)) (root16_length r) (by decide) hR3'.out hf.1 hf.2).mono ?_
  rintro e4 w4 ⟨A4, c4, rfl, ho, hb⟩
  have hO4 : Hid (w4.ownsRow w.heap.size 5 1 (.slice A4 20 c4) 20 (bcells (root16 r ++ put4 (fnv (root16 r))))) := own_base ho (by omega)
  have hB4 : Hid (Below w.heap.size w w4) := below_more hB3 hb
  have hs4 := hB4.out.size
  clear ho hb
  go_wp2_with (first
    | (at_builtin; refine ev_appendZ w.heap.size rfl (.tmp 30) (.tmp 33) 66 3 5 rfl Try.underlying66 Try.underlying3 infoByte _ 20 (root16 r ++ put4 (fnv (root16 r))) .i64 44 44 rfl rfl rfl hO4.out hs4 (by decide) ?_)
    | go_in)
  intro A5 c5 w5 ho hg
  have hO5 : Hid (w5.ownsRow w.heap.size 5 1 (.slice A5 64 c5) 64 (bcells (rootBytes r))) := by
    have e : rootBytes r = root16 r ++ (put4 (fnv (root16 r)) ++ List.replicate 44 0) := by simp [rootBytes]
    rw [e]
    exact ho
  have hB5 : Hid (Below w.heap.size w w5) := hB4.out.grown hg hs4 (fun q hq => (hO4.out.lt q hq).1)
  clear ho hg
  go_wp2
  go_ret
  exact ⟨A5, c5, rfl, hO5.out, hB5.out⟩
theorem rd3 {w : World} {b : Nat} {x y z : Value} (h : Rd w (some ⟨b, 0, none⟩) [x, y, z]) : w.cell? ⟨b, 0, none⟩ = some x ∧ w.cell? ⟨b, 1, none⟩ = some y ∧ w.cell? ⟨b, 2, none⟩ = some z := by
  obtain ⟨ad, h1, h2⟩ := h (by simp)
  cases h1
  exact ⟨h2 0 _ rfl, by simpa [add_at] using h2 1 _ rfl, by simpa [add_at] using h2 2 _ rfl⟩
set_option maxHeartbeats 4000000 in
theorem ref_Root (r : Rt) (hr : r.ok) (w : World) : Calls Try.prog 24 #[r.val] w fun e w' => ∃ A c, e = .returned (.slice A 64 c) ∧ w'.ownsRow w.heap.size 5 1 (.slice A 64 c) 64 (bcells (rootBytes r)) ∧ Below w.heap.size w w' := by
  have HK := Lib.hid hr
  have hr0 := hr.1
  have hr1 := hr.2
  clear hr
  unfold Rt.val
  go_enter Try.func24, Try.ntmps24
  have hcv : ∀ (o : Obj) (C : Array Value) (n c : Nat), (convert 66 66 (.slice (some ⟨w.heap.size + 1, 0, none⟩) n c)).run Try.prog ((w.alloc o).alloc (.cells C 5)).drew = .ok (.slice (some ⟨w.heap.size + 1, 0, none⟩) n c) ((w.alloc o).alloc (.cells C 5 (C.size, C.size + 1))).drew := fun o C n c => by
    have h := Lib.run_convert_bytes_const (P := Try.prog) (w.alloc o).drew 66 5 C n c (by kernel_rfl) (by kernel_rfl)
    have hs : (w.alloc o).drew.heap.size = w.heap.size + 1 := World.size_alloc w o
    rwa [hs] at h
  have hw1 : IntKind.u32.wrap r.log = r.log % 4294967296 := wrap_u32 _
  have hw2 : IntKind.u32.wrap r.pages = r.pages % 4294967296 := wrap_u32 _
  have hml : 0 ≤ r.log % 4294967296 ∧ r.log % 4294967296 < 4294967296 := mod32 _
  have hmp : 0 ≤ r.pages % 4294967296 ∧ r.pages % 4294967296 < 4294967296 := mod32 _
  have Hml := Lib.hid hml
  have Hmp := Lib.hid hmp
  clear hml hmp
  have hs1 : (w.alloc (.cells #[.int .i64 r.log, .int .i64 r.pages, .int .u32 r.epoch] 65)).heap.size = w.heap.size + 1 := World.size_alloc w _
  have hR0 : Hid (Rd ((w.alloc (.cells #[.int .i64 r.log, .int .i64 r.pages, .int .u32 r.epoch] 65)).alloc (.cells #[.int .u8 69, .int .u8 78, .int .u8 71, .int .u8 49] 5 (4, 5))).drew (some ⟨w.heap.size + 1, 0, none⟩) (bcells (rootPart r 0))) := by
    have h := rootPart_rd r (w.alloc (.cells #[.int .i64 r.log, .int .i64 r.pages, .int .u32 r.epoch] 65)).drew 5
    rw [show (w.alloc (.cells #[.int .i64 r.log, .int .i64 r.pages, .int .u32 r.epoch] 65)).drew.heap.size = w.heap.size + 1 from hs1] at h
    exact h
  have hBB : Hid (Below w.heap.size w ((w.alloc (.cells #[.int .i64 r.log, .int .i64 r.pages, .int .u32 r.epoch] 65)).alloc (.cells #[.int .u8 69, .int .u8 78, .int .u8 71, .int .u8 49] 5 (4, 5))).drew) := below_drewN' (((Below.refl _ _).alloc (Nat.le_refl _) _).alloc (by omega) _) 1
  have hX : Hid (Rd ((w.alloc (.cells #[.int .i64 r.log, .int .i64 r.pages, .int .u32 r.epoch] 65)).alloc (.cells #[.int .u8 69, .int .u8 78, .int .u8 71, .int .u8 49] 5 (4, 5))).drew (some ⟨w.heap.size, 0, none⟩) [.int .i64 r.log, .int .i64 r.pages, .int .u32 r.epoch]) := (lit_rd w [.int .i64 r.log, .int .i64 r.pages, .int .u32 r.epoch] 65).below (below_drewN' ((Below.refl _ _).alloc (Nat.le_refl _) _) 1)
  go_wp2_with (fail)
  refine wp_region_held_drew (S := (fun w' => w'.cell? ⟨w.heap.size, 0, none⟩ = some (.int .i64 r.log) ∧ w'.cell? ⟨w.heap.size, 1, none⟩ = some (.int .i64 r.pages) ∧ w'.cell? ⟨w.heap.size, 2, none⟩ = some (.int .u32 r.epoch))) (by kernel_rfl) (by go_keep) (fun hHeld => ?_)
  refine wpAnyH_take (i := 2) (v := ?_) (by rfl) (by kernel_rfl) (by kernel_rfl) (by kernel_rfl) (by exact fun _ _ _ h => h) (Or.inl ⟨by rfl, ?_⟩) (by assumption) ?_
  rotate_left
  · intro w' hSw
    try dsimp only at hSw
    go_simp
    try with_reducible rfl
  try simp only [Act.put, List.getElem_toArray, List.getElem_cons_zero, List.getElem_cons_succ, List.setIfInBounds_toArray, List.set_cons_zero, List.set_cons_succ]
  refine wpAnyH_take (i := 3) (v := ?_) (by rfl) (by kernel_rfl) (by kernel_rfl) (by kernel_rfl) (by exact fun _ _ _ h => h) (Or.inl ⟨by rfl, ?_⟩) (by assumption) ?_
  rotate_left
  · intro w' hSw
    try dsimp only at hSw
    go_simp
    try with_reducible rfl
  try simp only [Act.put, List.getElem_toArray, List.getElem_cons_zero, List.getElem_cons_succ, List.setIfInBounds_toArray, List.set_cons_zero, List.set_cons_succ]
  refine wpAnyH_take (i := 4) (v := ?_) (by rfl) (by kernel_rfl) (by kernel_rfl) (by kernel_rfl) (by exact fun _ _ _ h => h) (Or.inl ⟨by rfl, ?_⟩) (by assumption) ?_
  rotate_left
  · intro w' hSw
    try dsimp only at hSw
    go_simp
    try with_reducible rfl
  try simp only [Act.put, List.getElem_toArray, List.getElem_cons_zero, List.getElem_cons_succ, List.setIfInBounds_toArray, List.set_cons_zero, List.set_cons_succ]
  refine wpAnyH_take (i := 6) (v := ?_) (by rfl) (by kernel_rfl) (by kernel_rfl) (by kernel_rfl) (by exact fun _ _ _ h => h) (Or.inl ⟨by rfl, ?_⟩) (by assumption) ?_
  rotate_left
  · intro w' hSw
    try dsimp only at hSw
    go_simp
    try with_reducible rfl
  try simp only [Act.put, List.getElem_toArray, List.getElem_cons_zero, List.getElem_cons_succ, List.setIfInBounds_toArray, List.set_cons_zero, List.set_cons_succ]
  refine wpAnyH_take (i := 7) (v := ?_) (by rfl) (by kernel_rfl) (by kernel_rfl) (by kernel_rfl) (by exact fun _ _ _ h => h) (Or.inl ⟨by rfl, ?_⟩) (by assumption) ?_
  rotate_left
  · intro w' hSw
    try dsimp only at hSw
    go_simp
    try with_reducible rfl
  try simp only [Act.put, List.getElem_toArray, List.getElem_cons_zero, List.getElem_cons_succ, List.setIfInBounds_toArray, List.set_cons_zero, List.set_cons_succ]
  refine wpAnyH_take (i := 8) (v := ?_) (by rfl) (by kernel_rfl) (by kernel_rfl) (by kernel_rfl) (by exact fun _ _ _ h => h) (Or.inl ⟨by rfl, ?_⟩) (by assumption) ?_
  rotate_left
  · intro w' hSw
    try dsimp only at hSw
    go_simp
    try with_reducible rfl
  try simp only [Act.put, List.getElem_toArray, List.getElem_cons_zero, List.getElem_cons_succ, List.setIfInBounds_toArray, List.set_cons_zero, List.set_cons_succ]
  refine wpAnyH_take (i := 10) (v := ?_) (by rfl) (by kernel_rfl) (by kernel_rfl) (by kernel_rfl) (by exact fun _ _ _ h => h) (Or.inl ⟨by rfl, ?_⟩) (by assumption) ?_
  rotate_left
  · intro w' hSw
    try dsimp only at hSw
    go_simp
    try with_reducible rfl
  try simp only [Act.put, List.getElem_toArray, List.getElem_cons_zero, List.getElem_cons_succ, List.setIfInBounds_toArray, List.set_cons_zero, List.set_cons_succ]
  refine wpAnyH_take (i := 11) (v := ?_) (by rfl) (by kernel_rfl) (by kernel_rfl) (by kernel_rfl) (by exact fun _ _ _ h => h) (Or.inl ⟨by rfl, ?_⟩) (by assumption) ?_
  rotate_left
  · intro w' hSw
    try dsimp only at hSw
    go_simp
    try with_reducible rfl
  try simp only [Act.put, List.getElem_toArray, List.getElem_cons_zero, List.getElem_cons_succ, List.setIfInBounds_toArray, List.set_cons_zero, List.set_cons_succ]
  refine wpAnyH_ready (rs := [0]) (by kernel_rfl) (by simp) ?_
  refine AllReadyH.cons rfl (fun K hK => ?_) AllReadyH.nil
  rw [if_pos (by rfl)]
  go_simp
  refine hK.out _ _ (by go_keep) (fun hHeld => ?_)
  clear hK K
  try simp only [Act.put, List.getElem_toArray, List.getElem_cons_zero, List.getElem_cons_succ, List.setIfInBounds_toArray, List.set_cons_zero, List.set_cons_succ]
  refine wpAnyH_ready (rs := [1]) (by kernel_rfl) (by simp) ?_
  refine AllReadyH.cons rfl (fun K hK => ?_) AllReadyH.nil
  rw [if_pos (by rfl)]
  go_simp
  refine hK.out _ _ (by go_keep) (fun hHeld => ?_)
  clear hK K
  try simp only [Act.put, List.getElem_toArray, List.getElem_cons_zero, List.getElem_cons_succ, List.setIfInBounds_toArray, List.set_cons_zero, List.set_cons_succ]
  refine wpAnyH_ready (rs := [5]) (by kernel_rfl) (by simp) ?_
  refine AllReadyH.cons rfl (fun K hK => ?_) AllReadyH.nil
  rw [if_pos (by rfl)]
  go_simp
  go_at_call 56
  refine (ref_Put _ _ _ _ (rootPart r 0) (r.log % 4294967296) (rootPart_length r 0 (by omega)) (by decide) hR0.out Hml.out.1 Hml.out.2).mono ?_
  rintro e0 w0 ⟨A0, c0, rfl, ho0, hb0⟩
  replace ho0 := Lib.hid ho0
  replace hb0 := Lib.hid hb0
  have hX0 : Hid (Rd w0 (some ⟨w.heap.size, 0, none⟩) [.int .i64 r.log, .int .i64 r.pages, .int .u32 r.epoch]) := hX.out.below hb0.out
  obtain ⟨k0a, k0b, k0c⟩ := rd3 hX0.out
  go_wp2_with (fail)
  refine hK.out _ _ (⟨k0a, k0b, k0c⟩) (fun hHeld => ?_)
  clear hK K
  try simp only [Act.put, List.getElem_toArray, List.getElem_cons_zero, List.getElem_cons_succ, List.setIfInBounds_toArray, List.set_cons_zero, List.set_cons_succ]
  refine wpAnyH_ready (rs := [9]) (by kernel_rfl) (by simp) ?_
  refine AllReadyH.cons rfl (fun K hK => ?_) AllReadyH.nil
  rw [if_pos (by rfl)]
  go_simp
  go_at_call 56
  refine (ref_Put _ _ _ _ (rootPart r 0 ++ put4 (r.log % 4294967296)) (r.pages % 4294967296) (rootPart_length r 1 (by omega)) (by decide) (own_rd ho0.out) Hmp.out.1 Hmp.out.2).mono ?_
  rintro e1 w1 ⟨A1, c1, rfl, ho1, hb1⟩
  replace ho1 := Lib.hid ho1
  replace hb1 := Lib.hid hb1
  have hX1 : Hid (Rd w1 (some ⟨w.heap.size, 0, none⟩) [.int .i64 r.log, .int .i64 r.pages, .int .u32 r.epoch]) := hX0.out.below hb1.out
  obtain ⟨k1a, k1b, k1c⟩ := rd3 hX1.out
  go_wp2_with (fail)
  refine hK.out _ _ (⟨k1a, k1b, k1c⟩) (fun hHeld => ?_)
  clear hK K
  try simp only [Act.put, List.getElem_toArray, List.getElem_cons_zero, List.getElem_cons_succ, List.setIfInBounds_toArray, List.set_cons_zero, List.set_cons_succ]
  refine wpAnyH_ready (rs := [12]) (by kernel_rfl) (by simp) ?_
  refine AllReadyH.cons rfl (fun K hK => ?_) AllReadyH.nil
  rw [if_pos (by rfl)]
  go_simp
  go_at_call 56
  refine (ref_Put _ _ _ _ (rootPart r 0 ++ put4 (r.log % 4294967296) ++ put4 (r.pages % 4294967296)) r.epoch (rootPart_length r 2 (by omega)) (by decide) (own_rd ho1.out) hr0 hr1).mono ?_
  rintro e2 w2 ⟨A2, c2, rfl, ho2, hb2⟩
  replace ho2 := Lib.hid ho2
  replace hb2 := Lib.hid hb2
  have hX2 : Hid (Rd w2 (some ⟨w.heap.size, 0, none⟩) [.int .i64 r.log, .int .i64 r.pages, .int .u32 r.epoch]) := hX1.out.below hb2.out
  obtain ⟨k2a, k2b, k2c⟩ := rd3 hX2.out
  go_wp2_with (fail)
  refine hK.out _ _ (⟨k2a, k2b, k2c⟩) (fun hHeld => ?_)
  clear hK K
  try simp only [Act.put, List.getElem_toArray, List.getElem_cons_zero, List.getElem_cons_succ, List.setIfInBounds_toArray, List.set_cons_zero, List.set_cons_succ]
  refine wpAnyH_take (i := 13) (v := ?_) (by rfl) (by kernel_rfl) (by kernel_rfl) (by kernel_rfl) (by exact fun _ _ _ h => h) (Or.inl ⟨by rfl, ?_⟩) (by assumption) ?_
  rotate_left
  · intro w' hSw
    try dsimp only at hSw
    go_simp
    try with_reducible rfl
  try simp only [Act.put, List.getElem_toArray, List.getElem_cons_zero, List.getElem_cons_succ, List.setIfInBounds_toArray, List.set_cons_zero, List.set_cons_succ]
  refine wpAnyH_done (by kernel_rfl) ?_ _
  clear k0a k0b k0c k1a k1b k1c k2a k2b k2c
  have e : rootPart r 0 ++ put4 (r.log % 4294967296) ++ put4 (r.pages % 4294967296) ++ put4 r.epoch = root16 r := by simp [rootPart, root16]
  have hB2 : Hid (Below w.heap.size w w2) := below_more (below_more (below_more hBB hb0.out) hb1.out) hb2.out
  have hs2 := hB2.out.size
  have hR3' : Hid (Rd w2 A2 (bcells (root16 r))) := e ▸ own_rd ho2.out
  have hf := fnv_range (root16 r)
  go_wp2_with (fail)
  refine (ref_Sum _ _ _ _ (root16 r) (root16_length r) (by decide) hR3'.out).mono ?_
  rintro e3 w3 ⟨rfl, rfl⟩
  go_wp2_with (fail)
  refine (ref_Put _ _ _ _ (root16 r) (fnv (root16 r)) (root16_length r) (by decide) hR3'.out hf.1 hf.2).mono ?_
  rintro e4 w4 ⟨A4, c4, rfl, ho, hb⟩
  have hO4 : Hid (w4.ownsRow w.heap.size 5 1 (.slice A4 20 c4) 20 (bcells (root16 r ++ put4 (fnv (root16 r))))) := own_base ho (by omega)
  have hB4 : Hid (Below w.heap.size w w4) := below_more hB2 hb
  have hs4 := hB4.out.size
  clear ho hb
  go_wp2_with (first
    | (at_builtin; refine ev_appendZ w.heap.size rfl (.tmp 21) (.tmp 24) 66 3 5 rfl Try.underlying66 Try.underlying3 infoByte _ 20 (root16 r ++ put4 (fnv (root16 r))) .i64 44 44 rfl rfl rfl hO4.out hs4 (by decide) ?_)
    | go_in)
  intro A5 c5 w5 ho hg
  have hO5 : Hid (w5.ownsRow w.heap.size 5 1 (.slice A5 64 c5) 64 (bcells (rootBytes r))) := by
    have e : rootBytes r = root16 r ++ (put4 (fnv (root16 r)) ++ List.replicate 44 0) := by simp [rootBytes]
    rw [e]
    exact ho
  have hB5 : Hid (Below w.heap.size w w5) := hB4.out.grown hg hs4 (fun q hq => (hO4.out.lt q hq).1)
  clear ho hg
  go_wp2
  go_ret
  exact ⟨A5, c5, rfl, hO5.out, hB5.out⟩
def Rt.opt (o : Option Rt) : Rt := o.getD Rt.zero
def unRt (bs : List UInt8) : Rt := ⟨get4 bs 4, get4 bs 8, get4 bs 12⟩
theorem unRt_ok (bs : List UInt8) : (unRt bs).ok := get4_range bs 12
set_option maxHeartbeats 4000000 in
theorem root_Read (w : World) (A : Option Addr) (n c : Nat) (bs : List UInt8) (hn : bs.length = n) (hc : n ≤ c) (hm : n ≤ 140737488355328) (hr : Rd w A (bcells bs)) :
    Calls Try.prog 30 #[.slice A n c] w fun e w' => e = .returned (.tuple #[(Rt.opt (unroot bs)).val, .bool (unroot bs).isSome]) ∧ Below w.heap.size w w' := by
  have HR := Lib.hid hr
  have HN := Lib.hid hn
  clear hr hn
  by_cases h64 : n = 64
  · subst h64
    have HU := Lib.hid (unRt_ok bs)
    go_enter Try.func30, Try.ntmps30
    have h4r := get4_range bs 4
    have h8r := get4_range bs 8
    have hR1 : ∀ o, Hid (Rd (w.alloc o) A (bcells bs)) := fun o => HR.out.below ((Below.refl _ _).alloc (Nat.le_refl _) _)
    have hR2 : ∀ o o', Hid (Rd ((w.alloc o).alloc o') A (bcells bs)) := fun o o' => (hR1 o).out.below ((Below.refl _ _).alloc (Nat.le_refl _) _)
    have hR1 := Lib.hid hR1
    have hR2 := Lib.hid hR2
    go_wp2_with (fail)
    refine (sum_Get _ A 64 c bs 4 HN.out hc (by decide) (hR1.out _).out).mono ?_
    rintro e1 w1 ⟨rfl, rfl⟩
    go_wp2_with (fail)
    refine (sum_Get _ A 64 c bs 8 HN.out hc (by decide) (hR1.out _).out).mono ?_
    rintro e1 w1 ⟨rfl, rfl⟩
    go_wp2_with (fail)
    refine (sum_Get _ A 64 c bs 12 HN.out hc (by decide) (hR1.out _).out).mono ?_
    rintro e1 w1 ⟨rfl, rfl⟩
    by_cases h4 : get4 bs 4 > 2147483647
    · have hu : unroot bs = none := by
        unfold unroot
        rw [if_neg]
        rintro ⟨h, h', _⟩
        omega
      go_wp2
      refine bodyPost_ret (v := .tuple #[Rt.zero.val, .bool false]) (by simp [results, Try.results30, Rt.val, Rt.zero, go_sem]) rfl ⟨by rw [hu]; rfl, ?_⟩
      exact ((Below.refl _ _).alloc (Nat.le_refl _) _).alloc (by simp) _
    · by_cases h8 : get4 bs 8 > 2147483647
      · have hu : unroot bs = none := by
          unfold unroot
          rw [if_neg]
          rintro ⟨h, h', h'', _⟩
          omega
        go_wp2
        refine bodyPost_ret (v := .tuple #[Rt.zero.val, .bool false]) (by simp [results, Try.results30, Rt.val, Rt.zero, go_sem]) rfl ⟨by rw [hu]; rfl, ?_⟩
        exact ((Below.refl _ _).alloc (Nat.le_refl _) _).alloc (by simp) _
      · go_wp2_with (fail)
        refine (root_Bytes (unRt bs) HU.out _).mono ?_
        rintro e2 w2 ⟨A2, c2, rfl, ho2, hb2⟩
        go_wp2_with (fail)
        refine (equal_bytes w2 A A2 64 64 c c2 bs (rootBytes (unRt bs)) HN.out (rootBytes_length _) (by decide) ((hR2.out _ _).out.below hb2) (own_rd ho2)).mono ?_
        rintro e3 w3 ⟨rfl, hq3⟩
        have hB0 : Below w.heap.size w ((w.alloc (.cells #[.int .i64 0, .int .i64 0, .int .u32 0] 65)).alloc (.cells #[.int .i64 (get4 bs 4), .int .i64 (get4 bs 8), .int .u32 (get4 bs 12)] 65)) := ((Below.refl _ _).alloc (Nat.le_refl _) _).alloc (by simp) _
        have hk0 : w3.heap[w.heap.size]? = some (.cells #[.int .i64 0, .int .i64 0, .int .u32 0] 65) := by
          rw [hq3.heap, hb2.block _ (by simp; omega)]
          exact blk_alloc (heap_alloc_new w _) _
        have hk1 : w3.heap[w.heap.size + 1]? = some (.cells #[.int .i64 (get4 bs 4), .int .i64 (get4 bs 8), .int .u32 (get4 bs 12)] 65) := by
          rw [hq3.heap, hb2.block _ (by simp)]
          have := heap_alloc_new (w.alloc (.cells #[.int .i64 0, .int .i64 0, .int .u32 0] 65)) (.cells #[.int .i64 (get4 bs 4), .int .i64 (get4 bs 8), .int .u32 (get4 bs 12)] 65)
          rwa [World.size_alloc] at this
        have hB3 : Hid (Below w.heap.size w w3) := below_trans' (below_trans' hB0 hB0.size hb2) (by have := hB0.size; have := hb2.size; omega) hq3.below
        have r0 := blk_cell hk0 0
        have r1 := blk_cell hk0 1
        have r2 := blk_cell hk0 2
        have s0 := blk_cell hk1 0
        have s1 := blk_cell hk1 1
        have s2 := blk_cell hk1 2
        have fr := blk_free hk0
        have hk0 := Lib.hid hk0
        have hk1 := Lib.hid hk1
        have fr0 := fr 0
        have fr1 := fr 1
        have fr2 := fr 2
        clear fr hb2 ho2 hq3
        simp at r0 r1 r2 s0 s1 s2
        by_cases heq : bs = rootBytes (unRt bs)
        · have hd : decide (bs = rootBytes (unRt bs)) = true := decide_eq_true heq
          have Heq := Lib.hid heq
          rw [hd]
          clear hd heq
          go_wp2
          refine bodyPost_ret (v := .tuple #[(unRt bs).val, .bool true]) (by simp [results, Try.results30, Rt.val, unRt, go_sem, r0, r1, r2]) rfl ⟨?_, ?_⟩
          · have hu : unroot bs = some (unRt bs) := by
              unfold unroot
              rw [if_pos ⟨HN.out, h4, h8, Heq.out⟩]
              rfl
            rw [hu]
            rfl
          · exact ((hB3.out.setCell (Nat.le_refl _) _).setCell (Nat.le_refl _) _).setCell (Nat.le_refl _) _
        · have hd : decide (bs = rootBytes (unRt bs)) = false := decide_eq_false heq
          have Heq := Lib.hid heq
          rw [hd]
          clear hd heq
          have hu : unroot bs = none := by
            unfold unroot
            rw [if_neg]
            rintro ⟨_, _, _, h⟩
            exact Heq.out h
          have hu := Lib.hid hu
          go_wp2
          refine bodyPost_ret (v := .tuple #[Rt.zero.val, .bool false]) (by simp [results, Try.results30, Rt.val, Rt.zero, go_sem, r0, r1, r2]) rfl ⟨by rw [hu.out]; rfl, ?_⟩
          exact ((hB3.out.setCell (Nat.le_refl _) _).setCell (Nat.le_refl _) _).setCell (Nat.le_refl _) _
  · have hu : unroot bs = none := by
      unfold unroot
      rw [if_neg]
      rintro ⟨h, _⟩
      exact h64 (HN.out ▸ h)
    rw [hu]
    go_enter Try.func30, Try.ntmps30
    go_wp2
    refine bodyPost_ret (v := .tuple #[Rt.zero.val, .bool false]) (by simp [results, Try.results30, Rt.val, Rt.zero, go_sem]) rfl ⟨rfl, ?_⟩
    exact (Below.refl _ _).alloc (Nat.le_refl _) _
theorem root16_take4 (r : Rt) : (rootBytes r).take 4 = [69, 78, 71, 49] := by simp [rootBytes, root16]
set_option maxHeartbeats 4000000 in
theorem ref_Unroot (w : World) (A : Option Addr) (n c : Nat) (bs : List UInt8) (hn : bs.length = n) (hc : n ≤ c) (hm : n ≤ 140737488355328) (hr : Rd w A (bcells bs)) :
    Calls Try.prog 58 #[.slice A n c] w fun e w' => e = .returned (.tuple #[(Rt.opt (unroot bs)).val, .bool (unroot bs).isSome]) ∧ Below w.heap.size w w' := by
  have HR := Lib.hid hr
  have HN := Lib.hid hn
  clear hr hn
  by_cases h64 : n = 64
  · subst h64
    have HU := Lib.hid (unRt_ok bs)
    have h4r := get4_range bs 4
    have h8r := get4_range bs 8
    have hR1 : ∀ o, Hid (Rd (w.alloc o) A (bcells bs)) := fun o => HR.out.below ((Below.refl _ _).alloc (Nat.le_refl _) _)
    have hR2 : ∀ o o', Hid (Rd ((w.alloc o).alloc o') A (bcells bs)) := fun o o' => (hR1 o).out.below ((Below.refl _ _).alloc (Nat.le_refl _) _)
    have hsl := slice_to (P := Try.prog) 66 5 .i64 Try.underlying66 infoByte A 64 c 4 (by omega)
    have hcv : ∀ o, (convert 66 9 (.slice A 4 c)).run Try.prog (w.alloc o) = .ok (.string ⟨(bs.take 4).toArray⟩) (w.alloc o) := fun o => conv_str _ _ 5 _ Try.underlying66 Try.underlying5 Try.underlying9 A 4 c (bs.take 4) (by rw [List.length_take, HN.out]; rfl) (by rw [← bcells_take]; exact rd_take (hR1 o).out 4)
    by_cases hmk : bs.take 4 = [69, 78, 71, 49]
    · have hs4 : (⟨(bs.take 4).toArray⟩ : ByteArray) = ⟨#[69, 78, 71, 49]⟩ := by rw [hmk]
      rw [hs4] at hcv
      have hR1 := Lib.hid hR1
      have hR2 := Lib.hid hR2
      have hmk := Lib.hid hmk
      clear hs4
      go_enter Try.func58, Try.ntmps58
      go_wp2_with (fail)
      refine (ref_Get _ A 64 c bs 4 HN.out hc (by decide) (hR1.out _).out).mono ?_
      rintro e1 w1 ⟨rfl, q1⟩
      have q1 := Lib.hid q1
      go_wp2_with (fail)
      refine (ref_Get _ A 64 c bs 8 HN.out hc (by decide) (q1.out.rd (hR1.out _).out)).mono ?_
      rintro e2 w2 ⟨rfl, q2⟩
      have q2 := Lib.hid q2
      go_wp2_with (fail)
      refine (ref_Get _ A 64 c bs 12 HN.out hc (by decide) (q2.out.rd (q1.out.rd (hR1.out _).out))).mono ?_
      rintro e3 w3 ⟨rfl, q3⟩
      have q13 : Hid (Qt (w.alloc (.cells #[.int .i64 0, .int .i64 0, .int .u32 0] 65)) w3) := (q1.out.trans q2.out).trans q3
      have hk0 : Hid (w3.heap[w.heap.size]? = some (.cells #[.int .i64 0, .int .i64 0, .int .u32 0] 65)) := (q13.out.heap _).trans (heap_alloc_new w _)
      have hs3 : w3.heap.size = w.heap.size + 1 := by
        obtain ⟨k, hk⟩ := q13.out
        rw [hk]
        exact World.size_alloc w _
      have hR3 : Hid (Rd w3 A (bcells bs)) := q13.out.rd (hR1.out _).out
      have hB3 : Hid (Below w.heap.size w w3) := below_trans' ((Below.refl _ _).alloc (Nat.le_refl _) _) (by simp) q13.out.below
      clear q1 q2 q3 q13 hR1 hR2 hcv
      have hk1 : Hid ((w3.alloc (.cells #[.int .i64 (get4 bs 4), .int .i64 (get4 bs 8), .int .u32 (get4 bs 12)] 65)).heap[w.heap.size + 1]? = some (.cells #[.int .i64 (get4 bs 4), .int .i64 (get4 bs 8), .int .u32 (get4 bs 12)] 65)) := by
        have h := heap_alloc_new w3 (.cells #[.int .i64 (get4 bs 4), .int .i64 (get4 bs 8), .int .u32 (get4 bs 12)] 65)
        rwa [hs3] at h
      have hk0' := Lib.hid fun o => blk_alloc hk0.out o
      have hB4 := Lib.hid fun o => hB3.out.alloc (by omega) o
      have hf0 := blk_free hk0.out 0
      have hf1 := blk_free hk0.out 1
      have hf2 := blk_free hk0.out 2
      have hc0 := blk_cell (hk0'.out (.cells #[.int .i64 (get4 bs 4), .int .i64 (get4 bs 8), .int .u32 (get4 bs 12)] 65)) 0
      have hc1 := blk_cell (hk0'.out (.cells #[.int .i64 (get4 bs 4), .int .i64 (get4 bs 8), .int .u32 (get4 bs 12)] 65)) 1
      have hc2 := blk_cell (hk0'.out (.cells #[.int .i64 (get4 bs 4), .int .i64 (get4 bs 8), .int .u32 (get4 bs 12)] 65)) 2
      have c0 := blk_cell hk1.out 0
      have c1 := blk_cell hk1.out 1
      have c2 := blk_cell hk1.out 2
      simp at c0 c1 c2 hc0 hc1 hc2
      by_cases h4 : get4 bs 4 > 2147483647
      · have hu : unroot bs = none := by
          unfold unroot
          rw [if_neg]
          rintro ⟨h, h', _⟩
          omega
        have hd4 : decide (2147483647 < get4 bs 4) = true := decide_eq_true h4
        go_wp2_with (fail)
        go_quiet (fail)
        have hu := Lib.hid hu
        go_wp2
        refine bodyPost_ret (v := .tuple #[Rt.zero.val, .bool false]) (by simp [results, Try.results58, Rt.val, Rt.zero, unRt, go_sem, hc0, hc1, hc2]) rfl ⟨by rw [hu.out]; rfl, ?_⟩
        exact (((below_drewN' (hB4.out _) _).setCell (Nat.le_refl _) _).setCell (Nat.le_refl _) _).setCell (Nat.le_refl _) _
      · by_cases h8 : get4 bs 8 > 2147483647
        · have hu : unroot bs = none := by
            unfold unroot
            rw [if_neg]
            rintro ⟨h, h', h'', _⟩
            omega
          have hd4 : decide (2147483647 < get4 bs 4) = false := decide_eq_false h4
          have hd8 : decide (2147483647 < get4 bs 8) = true := decide_eq_true h8
          go_wp2_with (fail)
          go_quiet (fail)
          have hu := Lib.hid hu
          go_wp2
          refine bodyPost_ret (v := .tuple #[Rt.zero.val, .bool false]) (by simp [results, Try.results58, Rt.val, Rt.zero, unRt, go_sem, hc0, hc1, hc2]) rfl ⟨by rw [hu.out]; rfl, ?_⟩
          exact (((below_drewN' (hB4.out _) _).setCell (Nat.le_refl _) _).setCell (Nat.le_refl _) _).setCell (Nat.le_refl _) _
        · have hd4 : decide (2147483647 < get4 bs 4) = false := decide_eq_false h4
          have hd8 : decide (2147483647 < get4 bs 8) = false := decide_eq_false h8
          obtain ⟨W, hW⟩ : ∃ W, W = w3.alloc (.cells #[.int .i64 (get4 bs 4), .int .i64 (get4 bs 8), .int .u32 (get4 bs 12)] 65) := ⟨_, rfl⟩
          have hsW : W.drew.heap.size = w.heap.size + 1 + 1 := by
            rw [hW, ← hs3]
            exact World.size_alloc w3 _
          have hk1w : Hid (∀ w4, Below W.drew.heap.size W.drew w4 → w4.heap[w.heap.size + 1]? = some (.cells #[.int .i64 (get4 bs 4), .int .i64 (get4 bs 8), .int .u32 (get4 bs 12)] 65)) := fun w4 hb => by
            rw [hb.block _ (by omega), hW]
            exact hk1.out
          have hk0w : Hid (∀ w4, Below W.drew.heap.size W.drew w4 → w4.heap[w.heap.size]? = some (.cells #[.int .i64 0, .int .i64 0, .int .u32 0] 65)) := fun w4 hb => by
            rw [hb.block _ (by omega), hW]
            exact hk0'.out _
          have hB4w : Hid (∀ w4, Below W.drew.heap.size W.drew w4 → Below w.heap.size w w4) := fun w4 hb => by
            have h := below_drewN' (hB4.out (.cells #[.int .i64 (get4 bs 4), .int .i64 (get4 bs 8), .int .u32 (get4 bs 12)] 65)) 1
            rw [← hW] at h
            exact below_trans' h (by show w.heap.size ≤ W.drew.heap.size; omega) hb
          have hcA : Hid (∀ w4, Below W.drew.heap.size W.drew w4 → (convert 66 9 (.slice A 64 c)).run Try.prog w4 = .ok (.string ⟨bs.toArray⟩) w4) := fun w4 hb => conv_str _ _ 5 _ Try.underlying66 Try.underlying5 Try.underlying9 A 64 c bs HN.out (Rd.below (by
            have h := hR3.out.below ((Below.refl w3.heap.size w3).alloc (Nat.le_refl _) (.cells #[.int .i64 (get4 bs 4), .int .i64 (get4 bs 8), .int .u32 (get4 bs 12)] 65))
            rw [← hW] at h
            exact h) hb)
          have hcB : Hid (∀ w4 A4 c4, Rd w4 A4 (bcells (rootBytes (unRt bs))) → (convert 66 9 (.slice A4 64 c4)).run Try.prog w4 = .ok (.string ⟨(rootBytes (unRt bs)).toArray⟩) w4) := fun w4 A4 c4 h => conv_str _ _ 5 _ Try.underlying66 Try.underlying5 Try.underlying9 A4 64 c4 _ (rootBytes_length _) h
          rw [hW] at hk1w hk0w hB4w hcA
          clear hW hsW
          by_cases heq : bs = rootBytes (unRt bs)
          · have hu : Hid (unroot bs = some (unRt bs)) := by
              unfold unroot
              rw [if_pos ⟨HN.out, by omega, by omega, heq⟩]
              rfl
            have hcB : Hid (∀ w4 A4 c4, Rd w4 A4 (bcells (rootBytes (unRt bs))) → (convert 66 9 (.slice A4 64 c4)).run Try.prog w4 = .ok (.string ⟨bs.toArray⟩) w4) := fun w4 A4 c4 h => by
              have h' := hcB.out w4 A4 c4 h
              rwa [← heq] at h'
            clear heq
            have kA0 := hcA.out _ (Below.refl _ _)
            go_wp2_with (fail)
            refine wp_region_held_drew (S := (fun w' => w'.cell? ⟨w.heap.size + 1, 0, none⟩ = some (.int .i64 (get4 bs 4)) ∧ w'.cell? ⟨w.heap.size + 1, 1, none⟩ = some (.int .i64 (get4 bs 8)) ∧ w'.cell? ⟨w.heap.size + 1, 2, none⟩ = some (.int .u32 (get4 bs 12)) ∧ (convert 66 9 (.slice A 64 c)).run Try.prog w' = .ok (.string ⟨bs.toArray⟩) w')) (by kernel_rfl) (by go_keep) (fun hHeld => ?_)
            refine wpAnyH_take (i := 0) (v := ?_) (by rfl) (by kernel_rfl) (by kernel_rfl) (by kernel_rfl) (by exact fun _ _ _ h => h) (Or.inl ⟨by rfl, ?_⟩) (by assumption) ?_
            rotate_left
            · intro w' hSw
              try dsimp only at hSw
              go_simp
              try with_reducible rfl
            try simp only [Act.put, List.getElem_toArray, List.getElem_cons_zero, List.getElem_cons_succ, List.setIfInBounds_toArray, List.set_cons_zero, List.set_cons_succ]
            refine wpAnyH_take (i := 1) (v := ?_) (by rfl) (by kernel_rfl) (by kernel_rfl) (by kernel_rfl) (by exact fun _ _ _ h => h) (Or.inl ⟨by rfl, ?_⟩) (by assumption) ?_
            rotate_left
            · intro w' hSw
              try dsimp only at hSw
              go_simp
              try with_reducible rfl
            try simp only [Act.put, List.getElem_toArray, List.getElem_cons_zero, List.getElem_cons_succ, List.setIfInBounds_toArray, List.set_cons_zero, List.set_cons_succ]
            refine wpAnyH_take (i := 2) (v := ?_) (by rfl) (by kernel_rfl) (by kernel_rfl) (by kernel_rfl) (by exact fun _ _ _ h => h) (Or.inl ⟨by rfl, ?_⟩) (by assumption) ?_
            rotate_left
            · intro w' hSw
              try dsimp only at hSw
              go_simp
              try with_reducible rfl
            try simp only [Act.put, List.getElem_toArray, List.getElem_cons_zero, List.getElem_cons_succ, List.setIfInBounds_toArray, List.set_cons_zero, List.set_cons_succ]
            refine wpAnyH_take (i := 3) (v := ?_) (by rfl) (by kernel_rfl) (by kernel_rfl) (by kernel_rfl) (by exact fun _ _ _ h => h) (Or.inl ⟨by rfl, ?_⟩) (by assumption) ?_
            rotate_left
            · intro w' hSw
              try dsimp only at hSw
              go_simp
              try with_reducible rfl
            try simp only [Act.put, List.getElem_toArray, List.getElem_cons_zero, List.getElem_cons_succ, List.setIfInBounds_toArray, List.set_cons_zero, List.set_cons_succ]
            refine wpAnyH_take (i := 4) (v := ?_) (by rfl) (by kernel_rfl) (by kernel_rfl) (by kernel_rfl) (by exact fun _ _ _ h => h) (Or.inl ⟨by rfl, ?_⟩) (by assumption) ?_
            rotate_left
            · intro w' hSw
              try dsimp only at hSw
              go_simp
              try with_reducible rfl
            try simp only [Act.put, List.getElem_toArray, List.getElem_cons_zero, List.getElem_cons_succ, List.setIfInBounds_toArray, List.set_cons_zero, List.set_cons_succ]
            refine wpAnyH_take (i := 5) (v := ?_) (by rfl) (by kernel_rfl) (by kernel_rfl) (by kernel_rfl) (by exact fun _ _ _ h => h) (Or.inl ⟨by rfl, ?_⟩) (by assumption) ?_
            rotate_left
            · intro w' hSw
              try dsimp only at hSw
              go_simp
              try with_reducible rfl
            try simp only [Act.put, List.getElem_toArray, List.getElem_cons_zero, List.getElem_cons_succ, List.setIfInBounds_toArray, List.set_cons_zero, List.set_cons_succ]
            refine wpAnyH_take (i := 6) (v := ?_) (by rfl) (by kernel_rfl) (by kernel_rfl) (by kernel_rfl) (by exact fun _ _ _ h => h) (Or.inl ⟨by rfl, ?_⟩) (by assumption) ?_
            rotate_left
            · intro w' hSw
              try dsimp only at hSw
              go_simp
              try with_reducible rfl
            try simp only [Act.put, List.getElem_toArray, List.getElem_cons_zero, List.getElem_cons_succ, List.setIfInBounds_toArray, List.set_cons_zero, List.set_cons_succ]
            refine wpAnyH_take (i := 7) (v := ?_) (by rfl) (by kernel_rfl) (by kernel_rfl) (by kernel_rfl) (by exact fun _ _ _ h => h) (Or.inl ⟨by rfl, ?_⟩) (by assumption) ?_
            rotate_left
            · intro w' hSw
              try dsimp only at hSw
              go_simp
              try with_reducible rfl
            try simp only [Act.put, List.getElem_toArray, List.getElem_cons_zero, List.getElem_cons_succ, List.setIfInBounds_toArray, List.set_cons_zero, List.set_cons_succ]
            refine wpAnyH_take (i := 8) (v := ?_) (by rfl) (by kernel_rfl) (by kernel_rfl) (by kernel_rfl) (by exact fun _ _ _ h => h) (Or.inl ⟨by rfl, ?_⟩) (by assumption) ?_
            rotate_left
            · intro w' hSw
              try dsimp only at hSw
              go_simp
              try with_reducible rfl
            try simp only [Act.put, List.getElem_toArray, List.getElem_cons_zero, List.getElem_cons_succ, List.setIfInBounds_toArray, List.set_cons_zero, List.set_cons_succ]
            refine wpAnyH_take (i := 9) (v := ?_) (by rfl) (by kernel_rfl) (by kernel_rfl) (by kernel_rfl) (by exact fun _ _ _ h => h) (Or.inl ⟨by rfl, ?_⟩) (by assumption) ?_
            rotate_left
            · intro w' hSw
              try dsimp only at hSw
              go_simp
              try with_reducible rfl
            try simp only [Act.put, List.getElem_toArray, List.getElem_cons_zero, List.getElem_cons_succ, List.setIfInBounds_toArray, List.set_cons_zero, List.set_cons_succ]
            refine wpAnyH_take (i := 12) (v := ?_) (by rfl) (by kernel_rfl) (by kernel_rfl) (by kernel_rfl) (by exact fun _ _ _ h => h) (Or.inl ⟨by rfl, ?_⟩) (by assumption) ?_
            rotate_left
            · intro w' hSw
              try dsimp only at hSw
              go_simp
              try with_reducible rfl
            try simp only [Act.put, List.getElem_toArray, List.getElem_cons_zero, List.getElem_cons_succ, List.setIfInBounds_toArray, List.set_cons_zero, List.set_cons_succ]
            refine wpAnyH_take (i := 13) (v := ?_) (by rfl) (by kernel_rfl) (by kernel_rfl) (by kernel_rfl) (by exact fun _ _ _ h => h) (Or.inl ⟨by rfl, ?_⟩) (by assumption) ?_
            rotate_left
            · intro w' hSw
              try dsimp only at hSw
              go_simp
              try with_reducible rfl
            try simp only [Act.put, List.getElem_toArray, List.getElem_cons_zero, List.getElem_cons_succ, List.setIfInBounds_toArray, List.set_cons_zero, List.set_cons_succ]
            refine wpAnyH_ready (rs := [10]) (by kernel_rfl) (by simp) ?_
            refine AllReadyH.cons rfl (fun K hK => ?_) AllReadyH.nil
            rw [if_pos (by rfl)]
            go_simp
            go_at_call 24
            refine (ref_Root (unRt bs) HU.out _).mono ?_
            rintro e4 w4 ⟨A4, c4, rfl, ho4, hb4⟩
            replace ho4 := Lib.hid ho4
            replace hb4 := Lib.hid hb4
            have e1 := hk1w.out w4 hb4.out
            have e0 := hk0w.out w4 hb4.out
            have d0 := blk_cell e1 0
            have d1 := blk_cell e1 1
            have d2 := blk_cell e1 2
            have kA := hcA.out w4 hb4.out
            have kB := hcB.out w4 A4 c4 (own_rd ho4.out)
            simp at d0 d1 d2
            go_wp2_with (fail)
            refine hK.out _ _ (⟨d0, d1, d2, kA⟩) (fun hHeld => ?_)
            clear hK K
            try simp only [Act.put, List.getElem_toArray, List.getElem_cons_zero, List.getElem_cons_succ, List.setIfInBounds_toArray, List.set_cons_zero, List.set_cons_succ]
            refine wpAnyH_ready (rs := [11]) (by kernel_rfl) (by simp) ?_
            refine AllReadyH.cons rfl (fun K hK => ?_) AllReadyH.nil
            rw [if_pos (by rfl)]
            go_simp
            refine hK.out _ _ (⟨d0, d1, d2, kA⟩) (fun hHeld => ?_)
            clear hK K
            try simp only [Act.put, List.getElem_toArray, List.getElem_cons_zero, List.getElem_cons_succ, List.setIfInBounds_toArray, List.set_cons_zero, List.set_cons_succ]
            refine wpAnyH_take (i := 14) (v := ?_) (by rfl) (by kernel_rfl) (by kernel_rfl) (by kernel_rfl) (by exact fun _ _ _ h => h) (Or.inl ⟨by rfl, ?_⟩) (by assumption) ?_
            rotate_left
            · intro w' hSw
              try dsimp only at hSw
              go_simp
              try with_reducible rfl
            try simp only [Act.put, List.getElem_toArray, List.getElem_cons_zero, List.getElem_cons_succ, List.setIfInBounds_toArray, List.set_cons_zero, List.set_cons_succ]
            refine wpAnyH_take (i := 15) (v := ?_) (by rfl) (by kernel_rfl) (by kernel_rfl) (by kernel_rfl) (by exact fun _ _ _ h => h) (Or.inl ⟨by rfl, ?_⟩) (by assumption) ?_
            rotate_left
            · intro w' hSw
              try dsimp only at hSw
              go_simp
              try with_reducible rfl
            try simp only [Act.put, List.getElem_toArray, List.getElem_cons_zero, List.getElem_cons_succ, List.setIfInBounds_toArray, List.set_cons_zero, List.set_cons_succ]
            refine wpAnyH_done (by kernel_rfl) ?_ _
            all_goals
              have g0 := blk_cell e0 0
              have g1 := blk_cell e0 1
              have g2 := blk_cell e0 2
              have f0 := blk_free e0 0
              have f1 := blk_free e0 1
              have f2 := blk_free e0 2
              have hB5 := Lib.hid (hB4w.out w4 hb4.out)
              have e0 := Lib.hid e0
              clear hb4 ho4 kA kB e1
              simp at g0 g1 g2
              go_wp2
              refine bodyPost_ret (v := .tuple #[(unRt bs).val, .bool true]) (by simp [results, Try.results58, Rt.val, Rt.zero, unRt, go_sem, g0, g1, g2]) rfl ⟨?_, ?_⟩
              · rw [hu.out]
                rfl
              · exact ((hB5.out.setCell (Nat.le_refl _) _).setCell (Nat.le_refl _) _).setCell (Nat.le_refl _) _
          · have hu : Hid (unroot bs = none) := by
              show unroot bs = none
              unfold unroot
              rw [if_neg]
              rintro ⟨_, _, _, h⟩
              exact heq h
            have hne : (rootBytes (unRt bs) == bs) = false := by
              rw [beq_eq_false_iff_ne]
              exact fun h => heq h.symm
            clear heq
            have kA0 := hcA.out _ (Below.refl _ _)
            go_wp2_with (fail)
            refine wp_region_held_drew (S := (fun w' => w'.cell? ⟨w.heap.size + 1, 0, none⟩ = some (.int .i64 (get4 bs 4)) ∧ w'.cell? ⟨w.heap.size + 1, 1, none⟩ = some (.int .i64 (get4 bs 8)) ∧ w'.cell? ⟨w.heap.size + 1, 2, none⟩ = some (.int .u32 (get4 bs 12)) ∧ (convert 66 9 (.slice A 64 c)).run Try.prog w' = .ok (.string ⟨bs.toArray⟩) w')) (by kernel_rfl) (by go_keep) (fun hHeld => ?_)
            refine wpAnyH_take (i := 0) (v := ?_) (by rfl) (by kernel_rfl) (by kernel_rfl) (by kernel_rfl) (by exact fun _ _ _ h => h) (Or.inl ⟨by rfl, ?_⟩) (by assumption) ?_
            rotate_left
            · intro w' hSw
              try dsimp only at hSw
              go_simp
              try with_reducible rfl
            try simp only [Act.put, List.getElem_toArray, List.getElem_cons_zero, List.getElem_cons_succ, List.setIfInBounds_toArray, List.set_cons_zero, List.set_cons_succ]
            refine wpAnyH_take (i := 1) (v := ?_) (by rfl) (by kernel_rfl) (by kernel_rfl) (by kernel_rfl) (by exact fun _ _ _ h => h) (Or.inl ⟨by rfl, ?_⟩) (by assumption) ?_
            rotate_left
            · intro w' hSw
              try dsimp only at hSw
              go_simp
              try with_reducible rfl
            try simp only [Act.put, List.getElem_toArray, List.getElem_cons_zero, List.getElem_cons_succ, List.setIfInBounds_toArray, List.set_cons_zero, List.set_cons_succ]
            refine wpAnyH_take (i := 2) (v := ?_) (by rfl) (by kernel_rfl) (by kernel_rfl) (by kernel_rfl) (by exact fun _ _ _ h => h) (Or.inl ⟨by rfl, ?_⟩) (by assumption) ?_
            rotate_left
            · intro w' hSw
              try dsimp only at hSw
              go_simp
              try with_reducible rfl
            try simp only [Act.put, List.getElem_toArray, List.getElem_cons_zero, List.getElem_cons_succ, List.setIfInBounds_toArray, List.set_cons_zero, List.set_cons_succ]
            refine wpAnyH_take (i := 3) (v := ?_) (by rfl) (by kernel_rfl) (by kernel_rfl) (by kernel_rfl) (by exact fun _ _ _ h => h) (Or.inl ⟨by rfl, ?_⟩) (by assumption) ?_
            rotate_left
            · intro w' hSw
              try dsimp only at hSw
              go_simp
              try with_reducible rfl
            try simp only [Act.put, List.getElem_toArray, List.getElem_cons_zero, List.getElem_cons_succ, List.setIfInBounds_toArray, List.set_cons_zero, List.set_cons_succ]
            refine wpAnyH_take (i := 4) (v := ?_) (by rfl) (by kernel_rfl) (by kernel_rfl) (by kernel_rfl) (by exact fun _ _ _ h => h) (Or.inl ⟨by rfl, ?_⟩) (by assumption) ?_
            rotate_left
            · intro w' hSw
              try dsimp only at hSw
              go_simp
              try with_reducible rfl
            try simp only [Act.put, List.getElem_toArray, List.getElem_cons_zero, List.getElem_cons_succ, List.setIfInBounds_toArray, List.set_cons_zero, List.set_cons_succ]
            refine wpAnyH_take (i := 5) (v := ?_) (by rfl) (by kernel_rfl) (by kernel_rfl) (by kernel_rfl) (by exact fun _ _ _ h => h) (Or.inl ⟨by rfl, ?_⟩) (by assumption) ?_
            rotate_left
            · intro w' hSw
              try dsimp only at hSw
              go_simp
              try with_reducible rfl
            try simp only [Act.put, List.getElem_toArray, List.getElem_cons_zero, List.getElem_cons_succ, List.setIfInBounds_toArray, List.set_cons_zero, List.set_cons_succ]
            refine wpAnyH_take (i := 6) (v := ?_) (by rfl) (by kernel_rfl) (by kernel_rfl) (by kernel_rfl) (by exact fun _ _ _ h => h) (Or.inl ⟨by rfl, ?_⟩) (by assumption) ?_
            rotate_left
            · intro w' hSw
              try dsimp only at hSw
              go_simp
              try with_reducible rfl
            try simp only [Act.put, List.getElem_toArray, List.getElem_cons_zero, List.getElem_cons_succ, List.setIfInBounds_toArray, List.set_cons_zero, List.set_cons_succ]
            refine wpAnyH_take (i := 7) (v := ?_) (by rfl) (by kernel_rfl) (by kernel_rfl) (by kernel_rfl) (by exact fun _ _ _ h => h) (Or.inl ⟨by rfl, ?_⟩) (by assumption) ?_
            rotate_left
            · intro w' hSw
              try dsimp only at hSw
              go_simp
              try with_reducible rfl
            try simp only [Act.put, List.getElem_toArray, List.getElem_cons_zero, List.getElem_cons_succ, List.setIfInBounds_toArray, List.set_cons_zero, List.set_cons_succ]
            refine wpAnyH_take (i := 8) (v := ?_) (by rfl) (by kernel_rfl) (by kernel_rfl) (by kernel_rfl) (by exact fun _ _ _ h => h) (Or.inl ⟨by rfl, ?_⟩) (by assumption) ?_
            rotate_left
            · intro w' hSw
              try dsimp only at hSw
              go_simp
              try with_reducible rfl
            try simp only [Act.put, List.getElem_toArray, List.getElem_cons_zero, List.getElem_cons_succ, List.setIfInBounds_toArray, List.set_cons_zero, List.set_cons_succ]
            refine wpAnyH_take (i := 9) (v := ?_) (by rfl) (by kernel_rfl) (by kernel_rfl) (by kernel_rfl) (by exact fun _ _ _ h => h) (Or.inl ⟨by rfl, ?_⟩) (by assumption) ?_
            rotate_left
            · intro w' hSw
              try dsimp only at hSw
              go_simp
              try with_reducible rfl
            try simp only [Act.put, List.getElem_toArray, List.getElem_cons_zero, List.getElem_cons_succ, List.setIfInBounds_toArray, List.set_cons_zero, List.set_cons_succ]
            refine wpAnyH_take (i := 12) (v := ?_) (by rfl) (by kernel_rfl) (by kernel_rfl) (by kernel_rfl) (by exact fun _ _ _ h => h) (Or.inl ⟨by rfl, ?_⟩) (by assumption) ?_
            rotate_left
            · intro w' hSw
              try dsimp only at hSw
              go_simp
              try with_reducible rfl
            try simp only [Act.put, List.getElem_toArray, List.getElem_cons_zero, List.getElem_cons_succ, List.setIfInBounds_toArray, List.set_cons_zero, List.set_cons_succ]
            refine wpAnyH_take (i := 13) (v := ?_) (by rfl) (by kernel_rfl) (by kernel_rfl) (by kernel_rfl) (by exact fun _ _ _ h => h) (Or.inl ⟨by rfl, ?_⟩) (by assumption) ?_
            rotate_left
            · intro w' hSw
              try dsimp only at hSw
              go_simp
              try with_reducible rfl
            try simp only [Act.put, List.getElem_toArray, List.getElem_cons_zero, List.getElem_cons_succ, List.setIfInBounds_toArray, List.set_cons_zero, List.set_cons_succ]
            refine wpAnyH_ready (rs := [10]) (by kernel_rfl) (by simp) ?_
            refine AllReadyH.cons rfl (fun K hK => ?_) AllReadyH.nil
            rw [if_pos (by rfl)]
            go_simp
            go_at_call 24
            refine (ref_Root (unRt bs) HU.out _).mono ?_
            rintro e4 w4 ⟨A4, c4, rfl, ho4, hb4⟩
            replace ho4 := Lib.hid ho4
            replace hb4 := Lib.hid hb4
            have e1 := hk1w.out w4 hb4.out
            have e0 := hk0w.out w4 hb4.out
            have d0 := blk_cell e1 0
            have d1 := blk_cell e1 1
            have d2 := blk_cell e1 2
            have kA := hcA.out w4 hb4.out
            have kB := hcB.out w4 A4 c4 (own_rd ho4.out)
            simp at d0 d1 d2
            go_wp2_with (fail)
            refine hK.out _ _ (⟨d0, d1, d2, kA⟩) (fun hHeld => ?_)
            clear hK K
            try simp only [Act.put, List.getElem_toArray, List.getElem_cons_zero, List.getElem_cons_succ, List.setIfInBounds_toArray, List.set_cons_zero, List.set_cons_succ]
            refine wpAnyH_ready (rs := [11]) (by kernel_rfl) (by simp) ?_
            refine AllReadyH.cons rfl (fun K hK => ?_) AllReadyH.nil
            rw [if_pos (by rfl)]
            go_simp
            refine hK.out _ _ (⟨d0, d1, d2, kA⟩) (fun hHeld => ?_)
            clear hK K
            try simp only [Act.put, List.getElem_toArray, List.getElem_cons_zero, List.getElem_cons_succ, List.setIfInBounds_toArray, List.set_cons_zero, List.set_cons_succ]
            refine wpAnyH_take (i := 14) (v := ?_) (by rfl) (by kernel_rfl) (by kernel_rfl) (by kernel_rfl) (by exact fun _ _ _ h => h) (Or.inl ⟨by rfl, ?_⟩) (by assumption) ?_
            rotate_left
            · intro w' hSw
              try dsimp only at hSw
              go_simp
              try with_reducible rfl
            try simp only [Act.put, List.getElem_toArray, List.getElem_cons_zero, List.getElem_cons_succ, List.setIfInBounds_toArray, List.set_cons_zero, List.set_cons_succ]
            refine wpAnyH_take (i := 15) (v := ?_) (by rfl) (by kernel_rfl) (by kernel_rfl) (by kernel_rfl) (by exact fun _ _ _ h => h) (Or.inl ⟨by rfl, ?_⟩) (by assumption) ?_
            rotate_left
            · intro w' hSw
              try dsimp only at hSw
              go_simp
              try with_reducible rfl
            try simp only [Act.put, List.getElem_toArray, List.getElem_cons_zero, List.getElem_cons_succ, List.setIfInBounds_toArray, List.set_cons_zero, List.set_cons_succ]
            refine wpAnyH_done (by kernel_rfl) ?_ _
            all_goals
              have g0 := blk_cell e0 0
              have g1 := blk_cell e0 1
              have g2 := blk_cell e0 2
              have f0 := blk_free e0 0
              have f1 := blk_free e0 1
              have f2 := blk_free e0 2
              have hB5 := Lib.hid (hB4w.out w4 hb4.out)
              have e0 := Lib.hid e0
              clear hb4 ho4 kA kB e1
              simp at g0 g1 g2
              go_wp2
              refine bodyPost_ret (v := .tuple #[Rt.zero.val, .bool false]) (by simp [results, Try.results58, Rt.val, Rt.zero, unRt, go_sem, g0, g1, g2]) rfl ⟨by rw [hu.out]; rfl, ?_⟩
              exact ((hB5.out.setCell (Nat.le_refl _) _).setCell (Nat.le_refl _) _).setCell (Nat.le_refl _) _
    · have hu : unroot bs = none := by
        unfold unroot
        rw [if_neg]
        rintro ⟨_, _, _, h⟩
        rw [h, root16_take4] at hmk
        exact hmk rfl
      have hs4 : (bs.take 4 == [69, 78, 71, 49]) = false := by
        rw [beq_eq_false_iff_ne]
        exact hmk
      have hR1 := Lib.hid hR1
      have hR2 := Lib.hid hR2
      have hmk := Lib.hid hmk
      rw [hu]
      go_enter Try.func58, Try.ntmps58
      go_wp2
      refine bodyPost_ret (v := .tuple #[Rt.zero.val, .bool false]) (by simp [results, Try.results58, Rt.val, Rt.zero, go_sem]) rfl ⟨rfl, ?_⟩
      exact (Below.refl _ _).alloc (Nat.le_refl _) _
  · have hu : unroot bs = none := by
      unfold unroot
      rw [if_neg]
      rintro ⟨h, _⟩
      exact h64 (HN.out ▸ h)
    rw [hu]
    go_enter Try.func58, Try.ntmps58
    go_wp2
    refine bodyPost_ret (v := .tuple #[Rt.zero.val, .bool false]) (by simp [results, Try.results58, Rt.val, Rt.zero, go_sem]) rfl ⟨rfl, ?_⟩
    exact (Below.refl _ _).alloc (Nat.le_refl _) _
end Go.Proofs.Ytdbhhnphpjdmbaa
