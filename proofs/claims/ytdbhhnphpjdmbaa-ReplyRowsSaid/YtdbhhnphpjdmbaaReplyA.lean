/- Contracts of package reply and of the law ReplyRows: what each call answers and what it leaves in memory. No condition beyond the ones written. -/
import Derived.Test.YtdbhhnphpjdmbaaBase
namespace Go.Proofs.Ytdbhhnphpjdmbaa
open Go.RowKit
set_option maxRecDepth 100000
set_option linter.unusedVariables false

theorem info85 : (Try.prog.info? 85).map (fun i => (i.zero, i.size, i.bytes)) = some (some (.agg #[.int .i64 0, .bool false]), 2, 16) := by kernel_rfl
theorem info35 : (Try.prog.info? 35).map (fun i => (i.zero, i.size, i.bytes)) = some (some (.agg #[.int .i32 0, .int .i64 0]), 2, 16) := by kernel_rfl

/-! Of -/
theorem ta2_3 (n : Int) (w : World) : (Instr.typeAssert (.iface 2 (.int .i64 n)) 20 3 true).run Try.prog w = .ok (.tuple #[.int .i64 0, .bool false]) w := by kernel_rfl
theorem ta2_2 (n : Int) (w : World) : (Instr.typeAssert (.iface 2 (.int .i64 n)) 20 2 true).run Try.prog w = .ok (.tuple #[.int .i64 n, .bool true]) w := by kernel_rfl
theorem of_i64 (n : Int) (w : World) : Calls Try.prog 34 #[.iface 2 (.int .i64 n)] w fun e w' => e = .returned (.tuple #[.int .i64 n, .bool true]) ∧ w = w' := by
  have h1 := ta2_3 n w
  have h2 := ta2_2 n w
  go_enter Try.func34, Try.ntmps34
  go_wp2
  go_ret2
  exact ⟨rfl, rfl⟩
theorem of_int (n : Int) (w : World) : Calls Try.prog 34 #[.iface 3 (.int .i64 n)] w fun e w' => e = .returned (.tuple #[.int .i64 n, .bool true]) ∧ w = w' := by
  have h1 : (Instr.typeAssert (.iface 3 (.int .i64 n)) 20 3 true).run Try.prog w = .ok (.tuple #[.int .i64 n, .bool true]) w := by kernel_rfl
  go_enter Try.func34, Try.ntmps34
  go_wp2
  go_ret2
  exact ⟨rfl, rfl⟩
theorem of_true (w : World) : Calls Try.prog 34 #[.iface 4 (.bool true)] w fun e w' => e = .returned (.tuple #[.int .i64 1, .bool true]) ∧ w = w' := by
  have h1 : (Instr.typeAssert (.iface 4 (.bool true)) 20 3 true).run Try.prog w = .ok (.tuple #[.int .i64 0, .bool false]) w := by kernel_rfl
  have h2 : (Instr.typeAssert (.iface 4 (.bool true)) 20 2 true).run Try.prog w = .ok (.tuple #[.int .i64 0, .bool false]) w := by kernel_rfl
  have h3 : (Instr.typeAssert (.iface 4 (.bool true)) 20 4 true).run Try.prog w = .ok (.tuple #[.bool true, .bool true]) w := by kernel_rfl
  go_enter Try.func34, Try.ntmps34
  go_wp2
  go_ret2
  exact ⟨rfl, rfl⟩
theorem of_none (v z1 z2 z3 z4 z5 z6 : Value) (w : World) (h1 : (Instr.typeAssert v 20 3 true).run Try.prog w = .ok (.tuple #[z1, .bool false]) w) (h2 : (Instr.typeAssert v 20 2 true).run Try.prog w = .ok (.tuple #[z2, .bool false]) w) (h3 : (Instr.typeAssert v 20 4 true).run Try.prog w = .ok (.tuple #[z3, .bool false]) w) (h4 : (Instr.typeAssert v 20 21 true).run Try.prog w = .ok (.tuple #[z4, .bool false]) w) (h5 : (Instr.typeAssert v 20 9 true).run Try.prog w = .ok (.tuple #[z5, .bool false]) w) (h6 : (Instr.typeAssert v 20 25 true).run Try.prog w = .ok (.tuple #[z6, .bool false]) w) :
    Calls Try.prog 34 #[v] w fun e w' => e = .returned (.tuple #[.int .i64 0, .bool false]) ∧ w = w' := by
  go_enter Try.func34, Try.ntmps34
  go_wp2
  go_ret2
  exact ⟨rfl, rfl⟩
theorem of_nil (w : World) : Calls Try.prog 34 #[.nilIface] w fun e w' => e = .returned (.tuple #[.int .i64 0, .bool false]) ∧ w = w' :=
  of_none _ (.int .i64 0) (.int .i64 0) (.bool false) (.int .i32 0) (.string ⟨#[]⟩) (.slice none 0 0) w (by kernel_rfl) (by kernel_rfl) (by kernel_rfl) (by kernel_rfl) (by kernel_rfl) (by kernel_rfl)
theorem of_float (b : Nat) (w : World) : Calls Try.prog 34 #[.iface 89 (.float .f64 b)] w fun e w' => e = .returned (.tuple #[.int .i64 0, .bool false]) ∧ w = w' :=
  of_none _ (.int .i64 0) (.int .i64 0) (.bool false) (.int .i32 0) (.string ⟨#[]⟩) (.slice none 0 0) w (by kernel_rfl) (by kernel_rfl) (by kernel_rfl) (by kernel_rfl) (by kernel_rfl) (by kernel_rfl)
theorem of_own (v : Value) (w : World) : Calls Try.prog 34 #[.iface 27 v] w fun e w' => e = .returned (.tuple #[.int .i64 0, .bool false]) ∧ w = w' :=
  of_none _ (.int .i64 0) (.int .i64 0) (.bool false) (.int .i32 0) (.string ⟨#[]⟩) (.slice none 0 0) w (by kernel_rfl) (by kernel_rfl) (by kernel_rfl) (by kernel_rfl) (by kernel_rfl) (by kernel_rfl)

/-! Ask -/
def ansCells (l : List (Int × Bool)) : List Value := l.flatMap fun x => [.int .i64 x.1, .bool x.2]
def askCells (l : List (Int × Int)) : List Value := l.flatMap fun x => [.int .i32 x.1, .int .i64 x.2]
/-- the answers that are left -/
def Ans (w : World) (v : Value) (l : List (Int × Bool)) : Prop :=
  ∃ A c, v = .slice A l.length c ∧ l.length ≤ c ∧ c ≤ maxLen ∧ (l ≠ [] → ∃ g o cells, A = some ⟨g, o, none⟩ ∧ w.heap[g]? = some (.cells cells 85 (0, 0)) ∧ ∃ r, cells.toList.drop o = ansCells l ++ r)
structure RowSt (w : World) (B b : Nat) (l : List (Int × Bool)) (asks : List (Int × Int)) : Prop where
  lo : B ≤ b
  ex : ∃ vl va, w.heap[b]? = some (.cells #[vl, va] 82 (0, 0)) ∧ Ans w vl l ∧ w.ownsRow B 35 2 va asks.length (askCells asks)

theorem ans_tail {w : World} {n : Int} {ok : Bool} {l : List (Int × Bool)} {g o c : Nat} {cells : Array Value} {r : List Value} (hg : w.heap[g]? = some (.cells cells 85 (0, 0))) (hr : cells.toList.drop o = ansCells ((n, ok) :: l) ++ r) (hc : l.length + 1 ≤ c) (hm : c ≤ maxLen) :
    Ans w (.slice (if c = 1 then some ⟨g, o, none⟩ else some (Addr.add ⟨g, o, none⟩ 2)) l.length (c - 1)) l := by
  refine ⟨_, _, rfl, by omega, by simp only [maxLen] at *; omega, fun hne => ?_⟩
  have h1 : l.length ≠ 0 := fun h => hne (List.eq_nil_of_length_eq_zero h)
  rw [if_neg (by omega)]
  refine ⟨g, o + 2, cells, rfl, hg, r, ?_⟩
  rw [← List.drop_drop, hr]
  simp [ansCells]

theorem askCells_snoc (l : List (Int × Int)) (a b : Int) : askCells l ++ [.int .i32 a, .int .i64 b] = askCells (l ++ [(a, b)]) := by simp [askCells]

theorem Ans.move {w w' : World} {v : Value} {l : List (Int × Bool)} (h : Ans w v l) (hk : ∀ k, k < w.heap.size → w'.heap[k]? = w.heap[k]?) : Ans w' v l := by
  obtain ⟨A, c, rfl, h1, h2, h3⟩ := h
  refine ⟨A, c, rfl, h1, h2, fun hne => ?_⟩
  obtain ⟨g, o, cells, rfl, hg, hr⟩ := h3 hne
  exact ⟨g, o, cells, rfl, (hk g (blk_lt hg)).trans hg, hr⟩
theorem RowSt.move {w w' : World} {B b : Nat} {l : List (Int × Bool)} {asks : List (Int × Int)} (h : RowSt w B b l asks) (hk : ∀ k, k < w.heap.size → w'.heap[k]? = w.heap[k]?) : RowSt w' B b l asks := by
  obtain ⟨lo, vl, va, hb, hA, ho⟩ := h
  exact ⟨lo, vl, va, (hk b (blk_lt hb)).trans hb, hA.move hk, own_move' ho (fun k hk' => by
    obtain ⟨cells, hc⟩ := own_blk ho k hk'
    exact hk k (blk_lt hc))⟩
theorem row_end {w w1 : World} {B b n1 : Nat} {l : List (Int × Bool)} {asks : List (Int × Int)} {vl0 va0 vl va : Value} (lo : B ≤ b) (hBw : B ≤ w.heap.size) (hg1 : w.grownBy w1 va0.ownBlock) (hv0 : ∀ k, va0.ownBlock = some k → B ≤ k)
    (hb1 : w1.heap[b]? = some (.cells #[vl0, va0] 82 (0, 0))) (hA : Ans w1 vl l) (ho : w1.ownsRow B 35 2 va n1 (askCells asks)) (hn : n1 = asks.length) (W : World) (hW : W = (w1.setCell ⟨b, 1, none⟩ va).setCell ⟨b, 0, none⟩ vl ∨ (W = w1.setCell ⟨b, 1, none⟩ va ∧ vl = vl0)) :
    RowSt W B b l asks ∧ Below B w W := by
  subst hn
  have h1 := blk_set hb1 1 va
  have hBlow : Below B w w1 := ⟨hg1.os, hg1.tape, hg1.output, hg1.size, fun k hk => hg1.block k (by omega) (fun e => by have := hv0 k e.symm; omega)⟩
  have hne : ∀ k, va.ownBlock = some k → k ≠ b := fun k hk e => own_ne ho hb1 (by decide) (by rw [hk, e])
  have hother : ∀ k, k ≠ b → W.heap[k]? = w1.heap[k]? := fun k hk => by
    rcases hW with rfl | ⟨rfl, _⟩
    · rw [Below.heap_setCell _ _ _ _ hk, Below.heap_setCell _ _ _ _ hk]
    · rw [Below.heap_setCell _ _ _ _ hk]
  have hbW : W.heap[b]? = some (.cells #[vl, va] 82 (0, 0)) := by
    rcases hW with rfl | ⟨rfl, rfl⟩
    · exact blk_set h1 0 vl
    · exact h1
  have hbl : Below B w W := by
    rcases hW with rfl | ⟨rfl, _⟩
    · exact (hBlow.setCell lo _).setCell lo _
    · exact hBlow.setCell lo _
  refine ⟨⟨lo, vl, va, hbW, ?_, own_move' ho (fun k hk => hother k (hne k hk))⟩, hbl⟩
  obtain ⟨A, c, rfl, q1, q2, q3⟩ := hA
  refine ⟨A, c, rfl, q1, q2, fun hne' => ?_⟩
  obtain ⟨g, o, cells, rfl, hg, hr⟩ := q3 hne'
  exact ⟨g, o, cells, rfl, (hother g (fun e => by subst e; rw [hg] at hb1; simp at hb1)).trans hg, hr⟩

theorem ask_some (w : World) (B b : Nat) (n : Int) (ok : Bool) (l : List (Int × Bool)) (asks : List (Int × Int)) (nm x : Int) (h : RowSt w B b ((n, ok) :: l) asks) (hB : B ≤ w.heap.size) (ha : asks.length ≤ 1000000) :
    Calls Try.prog 12 #[.pointer (some ⟨b, 0, none⟩), .int .i32 nm, .int .i64 x] w fun e w' => e = .returned (.tuple #[.int .i64 n, .bool ok]) ∧ RowSt w' B b l (asks ++ [(nm, x)]) ∧ Below B w w' := by
  obtain ⟨lo, vl, va, hb, ⟨A, c, rfl, hlc, hcm, hA⟩, hown⟩ := h
  obtain ⟨g, o, cells, rfl, hg, r, hr⟩ := hA (by simp)
  have c0 := blk_cell hb 0
  have c1 := blk_cell hb 1
  simp at c0 c1
  have f1 := blk_free hb 1
  go_enter Try.func12, Try.ntmps12
  go_wp2_with (first
   | (at_builtin; refine ev_append1 B rfl _ _ 32 35 _ 2 16 rfl Try.underlying32 info35 rfl (by decide) (by decide) va asks.length (askCells asks) [.int .i32 nm, .int .i64 x] rfl rfl rfl (by simp [Value.oneCell']) hown hB (by omega) ?_)
   | go_in)
  intro g1 cp1 w1 hown1 hg1 hat1
  have hb1 : w1.heap[b]? = some (.cells #[.slice (some ⟨g, o, none⟩) ((n, ok) :: l).length c, va] 82 (0, 0)) := (hg1.block b (blk_lt hb) (own_ne hown hb (by decide))).trans hb
  have hg1' : w1.heap[g]? = some (.cells cells 85 (0, 0)) := (hg1.block g (blk_lt hg) (own_ne hown hg (by decide))).trans hg
  clear c0 c1 f1
  have c0 := blk_cell hb1 0
  have c1 := blk_cell hb1 1
  simp at c0 c1
  have f1 := blk_free hb1 1
  have f0 := blk_free hb1 0
  have d : ∀ j, cells[o + j]? = (ansCells ((n, ok) :: l) ++ r)[j]? := fun j => by rw [← hr, List.getElem?_drop]; simp
  have e0 := (blk_cell hg1' o).trans (d 0)
  have e1 := (blk_cell hg1' (o + 1)).trans (d 1)
  simp [ansCells] at e0 e1
  have hgb : g ≠ b := fun e => by subst e; rw [hg] at hb; simp at hb
  have hsz := hg1.size
  have hbl : b < w1.heap.size := blk_lt hb1
  have hgl : g < w1.heap.size := blk_lt hg1'
  have hv0 : Hid (∀ k, va.ownBlock = some k → B ≤ k) := fun k hk => (hown.lt k hk).1
  obtain ⟨A', hsl, HA⟩ : ∃ A', (∀ W, (Instr.slice 80 (.slice (some ⟨g, o, none⟩) (l.length + 1) c) (some (.int .i64 1)) none none).run Try.prog W = .ok (.slice A' l.length (c - 1)) W) ∧ Hid (Ans w1 (.slice A' l.length (c - 1)) l) :=
    ⟨_, slice_from 80 85 .i64 Try.underlying80 info85 (some ⟨g, o, none⟩) (l.length + 1) c 1 (by omega), ans_tail hg1' hr (by simpa using hlc) hcm⟩
  have Hown1 := Lib.hid (askCells_snoc asks nm x ▸ hown1)
  have Hg1 := Lib.hid hg1
  have Hr := Lib.hid hr
  have Hb1 := Lib.hid hb1
  have Hgg := Lib.hid hg1'
  have Hat1 := Lib.hid hat1
  clear hown1 hg1 hr d hown hA hb hg hb1 hg1' hat1
  go_wp2
  go_quiet (fail)
  go_wp2
  go_ret2
  have hend := row_end lo hB Hg1.out hv0.out Hb1.out HA.out Hown1.out (by simp) _ (.inl rfl)
  refine ⟨rfl, hend.1.move (fun k hk => ?_), ?_⟩
  · exact Below.heap_alloc _ _ k hk
  · exact below_drewN' (hend.2.alloc (Nat.le_trans hB hend.2.size) _) _
end Go.Proofs.Ytdbhhnphpjdmbaa
