/- Contracts of package reply and of the law ReplyRows: what each call answers and what it leaves in memory. No condition beyond the ones written. -/
import Derived.Test.YtdbhhnphpjdmbaaReplyD
namespace Go.Proofs.Ytdbhhnphpjdmbaa
open Go.RowKit
set_option maxRecDepth 100000
set_option linter.unusedVariables false
theorem ofok_cons {v : Value} {r : Int × Bool} {vs : List Value} {rs : List (Int × Bool)} (h1 : OfOk v r) (h : ∀ (j : Nat) v r, vs[j]? = some v → rs[j]? = some r → OfOk v r) : ∀ (j : Nat) v' r', (v :: vs)[j]? = some v' → (r :: rs)[j]? = some r' → OfOk v' r' := by
  intro j v' r' hv hr
  cases j with
  | zero => simp at hv hr; subst hv; subst hr; exact h1
  | succ j => exact h j v' r' (by simpa using hv) (by simpa using hr)
theorem ofok_nil : ∀ (j : Nat) (v : Value) (r : Int × Bool), ([] : List Value)[j]? = some v → ([] : List (Int × Bool))[j]? = some r → OfOk v r := by
  intro j v r hv
  simp at hv
theorem lit_cells (w : World) (vs : List Value) (t : TypeId) : 0 < vs.length → ∃ g o, some (⟨w.heap.size, 0, none⟩ : Addr) = some ⟨g, o, none⟩ ∧ g < (w.alloc (.cells vs.toArray t)).heap.size ∧ ∀ (j : Nat) v, vs[j]? = some v → (w.alloc (.cells vs.toArray t)).cell? ⟨g, o + j, none⟩ = some v :=
  fun _ => ⟨_, _, rfl, by simp, fun j v hv => by
    rw [blk_cell (heap_alloc_new w _)]
    simpa using hv⟩
theorem add_at (g j : Nat) : (⟨g, 0, none⟩ : Addr).add j = ⟨g, j, none⟩ := by unfold Addr.add; split <;> simp_all
theorem num_rd {w : World} {base : Nat} {v : Value} {n : Nat} {rs : List (Int × Bool)} (h : w.ownsRow base 2 1 v n (numCells rs)) : ∃ A c, v = .slice A n c ∧ n ≤ c ∧ Rd w A (i64s (rs.map (·.1))) := by
  have h2 := h
  rcases h.2 with ⟨rfl, h0⟩ | ⟨g, cap, cur, rfl, _, _, hn, _⟩
  · subst h0
    have := own_rd h2
    exact ⟨none, 0, rfl, Nat.le_refl _, by simpa [numCells, i64s, Function.comp_def] using this⟩
  · have := own_rd h2
    exact ⟨_, cap, rfl, hn, by simpa [numCells, i64s, Function.comp_def] using this⟩
theorem lit_rd (w : World) (vs : List Value) (t : TypeId) : Rd (w.alloc (.cells vs.toArray t)) (some ⟨w.heap.size, 0, none⟩) vs := fun _ => ⟨_, rfl, fun j v hv => by
  rw [add_at, blk_cell (heap_alloc_new w _)]
  simpa using hv⟩
theorem hid_and {p q : Prop} (h1 : p) (h2 : q) : p ∧ q := ⟨h1, h2⟩
theorem add_block (a : Addr) (j : Nat) : (a.add j).block = a.block := by unfold Addr.add; split <;> rfl
theorem Rd.lt {w : World} {A : Option Addr} {v : Value} {vs : List Value} (h : Rd w A (v :: vs)) : ∀ ad, A = some ad → ad.block < w.heap.size := by
  intro ad hA
  obtain ⟨ad', h1, hc⟩ := h (by simp)
  rw [hA] at h1
  injection h1 with h1
  subst h1
  have := cell_blk (hc 0 v rfl)
  rwa [add_block] at this
theorem Rd.to {w w' : World} {B : Nat} {A : Option Addr} {vs : List Value} (h : Rd w A vs) (hb : Below B w w') (hA : ∀ ad, A = some ad → ad.block < B) : Rd w' A vs := by
  intro hne
  obtain ⟨ad, rfl, hc⟩ := h hne
  exact ⟨ad, rfl, fun j v hv => (hb.cell (by rw [add_block]; exact hA ad rfl)).trans (hc j v hv)⟩
theorem below_alloc' {w w1 : World} (h : Hid (Below w.heap.size w w1)) (o : Obj) : Hid (Below w.heap.size w (w1.alloc o)) := h.out.alloc h.out.size o
theorem below_more {w w1 w2 : World} (h : Hid (Below w.heap.size w w1)) (k : Below w1.heap.size w1 w2) : Hid (Below w.heap.size w w2) := below_trans' h.out h.out.size k
set_option maxHeartbeats 2000000 in
theorem known12 (w : World) : Calls Try.prog 14 #[] w fun e w' => e = .returned (.bool true) ∧ Below w.heap.size w w' := by
  go_enter Try.func14, Try.ntmps14
  go_wp2_with (fail)
  refine (of_str _ 2 runes_ab _).mono ?_
  rintro e w1 ⟨rfl, hb1⟩
  have HB := Lib.hid hb1
  clear hb1
  go_wp2_with (fail)
  refine (of_nil _).mono ?_
  rintro e w2 ⟨rfl, rfl⟩
  go_wp2_with (fail)
  refine (all_calls _ _ 3 3 [.iface 3 (.int .i64 1), .iface 4 (.bool true), .iface 9 (.string ⟨#[120]⟩)] [(1, true), (1, true), (1, true)] rfl rfl (by decide) (by decide) (lit_cells _ [_, _, _] 20) (ofok_cons (ofok_same (of_int 1)) (ofok_cons (ofok_same of_true) (ofok_cons (of_str _ 1 runes_x) ofok_nil)))).mono ?_
  rintro e w3 ⟨hb3, ⟨v1, rfl, ho1, _⟩ | ⟨_, r, hr, hrr⟩⟩
  rotate_left
  · simp at hr; subst hr; simp at hrr
  have HB3 := below_more (below_alloc' HB _) hb3
  obtain ⟨A1, c1, rfl, hc1, hrd1⟩ := num_rd ho1
  have Hrd1 : Hid (Rd w3 A1 (i64s [1, 1, 1])) := hrd1
  clear hb3 HB ho1 hrd1
  go_wp2_with (fail)
  refine (all_calls _ _ 2 2 [.iface 3 (.int .i64 1), .iface 89 (.float .f64 4609434218613702656)] [(1, true), (0, false)] rfl rfl (by decide) (by decide) (lit_cells _ [_, _] 20) (ofok_cons (ofok_same (of_int 1)) (ofok_cons (ofok_same (of_float _)) ofok_nil))).mono ?_
  rintro e w4 ⟨hb4, ⟨v2, _, _, hall⟩ | ⟨rfl, _⟩⟩
  · exact absurd (hall (0, false) (by simp)) (by simp)
  have HB4 := below_more (below_alloc' HB3 _) hb4
  have Hrd2 : Hid (Rd w4 A1 (i64s [1, 1, 1])) := (Hrd1.out.below ((Below.refl _ _).alloc (Nat.le_refl _) _)).below hb4
  clear hb4 HB3 Hrd1
  go_wp2_with (fail)
  refine (new_calls _ _ 2 2 [.iface 3 (.int .i64 7), .nilIface] [(7, true), (0, false)] rfl rfl (by decide) (by decide) (lit_cells _ [_, _] 20) (ofok_cons (ofok_same (of_int 7)) (ofok_cons (ofok_same of_nil) ofok_nil))).mono ?_
  rintro e w5 ⟨b, rfl, hr5, hb5⟩
  have hlo : w.heap.size ≤ (w4.alloc (.cells #[.iface 3 (.int .i64 7), .nilIface] 20)).heap.size := (below_alloc' HB4 _).out.size
  have hB5 := hb5.size
  have HB5 := below_more (below_alloc' HB4 (.cells #[.iface 3 (.int .i64 7), .nilIface] 20)) hb5
  have Hrd3 : Hid (Rd w5 A1 (i64s [1, 1, 1])) := (Hrd2.out.below ((Below.refl _ _).alloc (Nat.le_refl _) _)).below hb5
  have hBA : ∀ ad, A1 = some ad → ad.block < (w4.alloc (.cells #[.iface 3 (.int .i64 7), .nilIface] 20)).heap.size := fun ad h => Nat.lt_of_lt_of_le (Rd.lt Hrd2.out ad h) (by simp)
  generalize (w4.alloc (.cells #[.iface 3 (.int .i64 7), .nilIface] 20)).heap.size = B at hr5 hlo hB5 hb5 hBA
  clear hb5 HB4 Hrd2
  go_wp2_with (fail)
  refine (ask_some _ B b 7 true [(0, false)] [] 113 1 hr5 hB5 (by decide)).mono ?_
  rintro e w6 ⟨rfl, hr6, hb6⟩
  have HB6 : Hid (Below w.heap.size w w6) := HB5.out.trans (hb6.mono hlo)
  have hB6 := Nat.le_trans hB5 hb6.size
  clear hr5 HB5
  go_wp2_with (fail)
  refine (ask_some _ B b 0 false [] [(113, 1)] 114 2 hr6 hB6 (by decide)).mono ?_
  rintro e w7 ⟨rfl, hr7, hb7⟩
  have HB7 : Hid (Below w.heap.size w w7) := HB6.out.trans (hb7.mono hlo)
  have hB7 := Nat.le_trans hB6 hb7.size
  clear hr6 HB6
  go_wp2_with (fail)
  refine (ask_none _ B b [(113, 1), (114, 2)] 113 3 hr7 hB7 (by decide)).mono ?_
  rintro e w8 ⟨rfl, hr8, hb8⟩
  have HB8 : Hid (Below w.heap.size w w8) := HB7.out.trans (hb8.mono hlo)
  have hB8 := Nat.le_trans hB7 hb8.size
  clear hr7 HB7
  go_wp2_with (fail)
  have Hrd8 : Hid (Rd (w8.alloc (.cells #[.int .i64 1, .int .i64 1, .int .i64 1] 2)) A1 (i64s [1, 1, 1])) := (((Hrd3.out.to hb6 hBA).to hb7 hBA).to hb8 hBA).below ((Below.refl _ _).alloc (Nat.le_refl _) _)
  have hr9 := hr8.move (w' := w8.alloc (.cells #[.int .i64 1, .int .i64 1, .int .i64 1] 2)) (fun k hk => Below.heap_alloc _ _ k hk)
  have HB9 := below_alloc' HB8 (.cells #[.int .i64 1, .int .i64 1, .int .i64 1] 2)
  clear hr8 hb6 hb7 hb8 hBA Hrd3 HB8
  refine (same_calls _ A1 _ c1 3 [1, 1, 1] [1, 1, 1] (by decide) Hrd8.out (lit_rd _ [_, _, _] 2) hc1 (by decide)).mono ?_
  rintro e w9 ⟨rfl, hb9⟩
  have hr10 := hr9.move (fun k hk => hb9.block k hk)
  have HB10 := below_more HB9 hb9
  clear hr9 HB9 hb9 Hrd8
  go_wp2_with (fail)
  refine (must_float _ _).mono ?_
  rintro e w10 ⟨rfl, hb10⟩
  have hr11 := hr10.move (fun k hk => hb10.block k hk)
  have HB11 := below_more HB10 hb10
  clear hr10 HB10 hb10
  go_wp2_with (fail)
  refine (asks_calls _ B b _ _ hr11 (by decide) (by decide)).mono ?_
  rintro e w11 ⟨A, c, rfl, ho11, hb11⟩
  have hr12 := hr11.move (fun k hk => hb11.block k hk)
  have HB12 := below_more HB11 hb11
  clear hr11 HB11 hb11 ho11
  go_wp2_with (fail)
  refine (asks_calls _ B b _ _ hr12 (by decide) (by decide)).mono ?_
  rintro e w12 ⟨A, c, rfl, ho12, hb12⟩
  have HB13 := below_more HB12 hb12
  clear hr12 HB12 hb12
  obtain ⟨g, cap, hA, _⟩ := ho12.form (by decide)
  injection hA with hA
  subst hA
  have c2 := ho12.cellAt 2 (by decide)
  simp [askCells] at c2
  clear ho12
  go_wp2
  go_ret
  exact ⟨by simp, HB13.out⟩
end Go.Proofs.Ytdbhhnphpjdmbaa
