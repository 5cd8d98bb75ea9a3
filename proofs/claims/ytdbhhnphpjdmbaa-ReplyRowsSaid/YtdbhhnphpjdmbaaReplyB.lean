/- Contracts of package reply and of the law ReplyRows: what each call answers and what it leaves in memory. No condition beyond the ones written. -/
import Derived.Test.YtdbhhnphpjdmbaaReplyA
namespace Go.Proofs.Ytdbhhnphpjdmbaa
open Go.RowKit
set_option maxRecDepth 100000
set_option linter.unusedVariables false

theorem ask_none (w : World) (B b : Nat) (asks : List (Int × Int)) (nm x : Int) (h : RowSt w B b [] asks) (hB : B ≤ w.heap.size) (ha : asks.length ≤ 1000000) :
    Calls Try.prog 12 #[.pointer (some ⟨b, 0, none⟩), .int .i32 nm, .int .i64 x] w fun e w' => e = .returned (.tuple #[.int .i64 0, .bool true]) ∧ RowSt w' B b [] (asks ++ [(nm, x)]) ∧ Below B w w' := by
  obtain ⟨lo, vl, va, hb, hA, hown⟩ := h
  obtain ⟨A, c, rfl, hlc, hcm, _⟩ := id hA
  have c0 := blk_cell hb 0
  have c1 := blk_cell hb 1
  simp at c0 c1
  have f1 := blk_free hb 1
  have HA0 := Lib.hid hA
  clear hA
  go_enter Try.func12, Try.ntmps12
  go_wp2_with (first
   | (at_builtin; refine ev_append1 B rfl _ _ 32 35 _ 2 16 rfl Try.underlying32 info35 rfl (by decide) (by decide) va asks.length (askCells asks) [.int .i32 nm, .int .i64 x] rfl rfl rfl (by simp [Value.oneCell']) hown hB (by omega) ?_)
   | go_in)
  intro g1 cp1 w1 hown1 hg1 hat1
  have hb1 : w1.heap[b]? = some (.cells #[.slice A ([] : List (Int × Bool)).length c, va] 82 (0, 0)) := (hg1.block b (blk_lt hb) (own_ne hown hb (by decide))).trans hb
  clear c0 c1 f1
  have c0 := blk_cell hb1 0
  have c1 := blk_cell hb1 1
  simp at c0 c1
  have f1 := blk_free hb1 1
  have hbl : b < w1.heap.size := blk_lt hb1
  have hA1 : Ans w1 (.slice A ([] : List (Int × Bool)).length c) [] := ⟨A, c, rfl, hlc, hcm, fun h => absurd rfl h⟩
  have HA1 := Lib.hid hA1
  have hv0 : Hid (∀ k, va.ownBlock = some k → B ≤ k) := fun k hk => (hown.lt k hk).1
  have Hown1 := Lib.hid (askCells_snoc asks nm x ▸ hown1)
  have Hg1 := Lib.hid hg1
  have Hb1 := Lib.hid hb1
  clear hA1 hown1 hg1 hb1 hb hown hat1
  go_wp2
  go_ret2
  have hend := row_end lo hB Hg1.out hv0.out Hb1.out HA1.out Hown1.out (by simp) _ (.inr ⟨rfl, rfl⟩)
  exact ⟨rfl, hend⟩

theorem ask_one (asks : List (Int × Int)) : ∀ u ∈ askCells asks, u.oneCell' = true := by
  intro u hu
  simp only [askCells, List.mem_flatMap] at hu
  obtain ⟨x, _, hx⟩ := hu
  simp at hx
  rcases hx with rfl | rfl <;> rfl
theorem clone_calls (w : World) (B : Nat) (va : Value) (asks : List (Int × Int)) (hown : w.ownsRow B 35 2 va asks.length (askCells asks)) (ha : asks.length ≤ 1000000) (hne : asks ≠ []) :
    Calls Try.prog 35 #[va] w fun e w' => ∃ A c, e = .returned (.slice A asks.length c) ∧ w'.ownsRow w.heap.size 35 2 (.slice A asks.length c) asks.length (askCells asks) ∧ Below w.heap.size w w' := by
  have hpos : 0 < asks.length := List.length_pos_iff.2 hne
  obtain ⟨g, cap, rfl, _⟩ := hown.form hpos
  have hnil := Lib.run_eql_slice_nil (P := Try.prog)
  have hcl : (askCells asks).length = asks.length * 2 := hown.1
  have hlt : g < w.heap.size := (hown.lt g rfl).2
  have hc2 := hown.cells (g := g) rfl
  have h0 := World.ownsRow_lit (base := w.heap.size) (e := 35) (size := 2) w #[] 0 (Nat.le_refl _) (by decide) rfl
  have hone := ask_one asks
  have hcells : ∀ j u, (askCells asks)[j]? = some u → (w.alloc (.cells #[] 35)).cell? ((⟨g, 0, none⟩ : Addr).add j) = some u := fun j u hu => by
    have := hc2 j u hu
    rw [World.cell?_of_block (w := w) (Below.heap_alloc _ _ _ (by unfold Addr.add; split <;> exact hlt))]; exact this
  have Hc2 := Lib.hid hcells
  have Hcl := Lib.hid hcl
  have Hone := Lib.hid hone
  have H0 := Lib.hid h0
  clear hc2 hcl hown hone h0 hcells
  go_enter Try.func35, Try.ntmps35
  go_wp2_with (first
   | (at_builtin; refine ev_appendN w.heap.size rfl (.tmp 5) (.tmp 6) 32 35 _ 2 16 rfl Try.underlying32 info35 rfl (by decide) (by decide) _ 0 [] ⟨g, 0, none⟩ asks.length cap (askCells asks) rfl rfl Hcl.out Hc2.out Hone.out H0.out (by simp) (by omega) ?_)
   | go_in)
  intro A1 c1 w1 hown1 hg1 _
  have Hown := Lib.hid hown1
  have Hg := Lib.hid (Below.grown (Below.alloc (Below.refl w.heap.size w) (Nat.le_refl _) (.cells #[] 35)) hg1 (by simp) (fun k hk => by
    have : w.heap.size = k := by simpa [Value.ownBlock] using hk
    omega))
  clear hown1 hg1
  go_wp2
  go_ret
  exact ⟨A1, c1, by simp, Hown.out, Hg.out⟩

theorem asks_calls (w : World) (B b : Nat) (l : List (Int × Bool)) (asks : List (Int × Int)) (h : RowSt w B b l asks) (ha : asks.length ≤ 1000000) (hne : asks ≠ []) :
    Calls Try.prog 13 #[.pointer (some ⟨b, 0, none⟩)] w fun e w' => ∃ A c, e = .returned (.slice A asks.length c) ∧ w'.ownsRow w.heap.size 35 2 (.slice A asks.length c) asks.length (askCells asks) ∧ Below w.heap.size w w' := by
  obtain ⟨lo, vl, va, hb, hA, hown⟩ := h
  have c1 := blk_cell hb 1
  simp at c1
  obtain ⟨g, cap, rfl, _⟩ := hown.form (List.length_pos_iff.2 hne)
  have hcl := clone_calls w B _ asks hown ha hne
  have Hcl := Lib.hid hcl
  clear hcl hown hb
  go_enter Try.func13, Try.ntmps13
  go_wp2_with (go_at_call 35; refine Hcl.out.mono ?_; rintro e w' ⟨A, c, rfl, ho, hb⟩; have Ho := Lib.hid ho; clear ho)
  go_ret
  exact ⟨_, _, rfl, Ho.out, hb⟩
end Go.Proofs.Ytdbhhnphpjdmbaa
