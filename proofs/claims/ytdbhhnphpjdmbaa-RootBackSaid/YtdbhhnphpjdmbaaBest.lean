/- The best root of a disk: the program's and the reference's. -/
import Derived.Test.YtdbhhnphpjdmbaaRefW
import Derived.Test.YtdbhhnphpjdmbaaRoot
import Derived.Deep.QuietTactic
import Derived.BigQuiet
namespace Go.Proofs.Ytdbhhnphpjdmbaa
open Go.RowKit
set_option maxRecDepth 100000
set_option linter.unusedVariables false
set_option linter.unusedSimpArgs false
def bestStep (n : Int) (acc : Rt) (b : List UInt8) : Rt := if (unroot b).isSome && (rightB (Rt.opt (unroot b)) n && decide (acc.epoch < (Rt.opt (unroot b)).epoch)) then Rt.opt (unroot b) else acc
def bestRt (n : Int) (rows : List (List UInt8)) : Rt := rows.foldl (bestStep n) Rt.zero
theorem bestRt_take (n : Int) (rows : List (List UInt8)) (k : Nat) (b : List UInt8) (h : rows[k]? = some b) : bestRt n (rows.take (k + 1)) = bestStep n (bestRt n (rows.take k)) b := by
  rw [take_snoc' rows k b h]
  simp [bestRt]
theorem DkAt.drewd {w : World} {S : Nat → Prop} {a : Nat} {D : Dk} (h : DkAt w S a D) : DkAt w.drew S a D := h.below (below_drewN' (Below.refl _ _) 1)
theorem own_capA {w : World} {e : TypeId} {base size n c : Nat} {A : Option Addr} {vs : List Value} (h : w.ownsRow base e size (.slice A n c) n vs) : n ≤ c := by
  rcases h.2 with ⟨h1, h2⟩ | ⟨g, cap, cur, h1, _, _, h2, _⟩
  · omega
  · simp at h1
    omega
theorem opt_ok (b : List UInt8) : (Rt.opt (unroot b)).ok := by
  unfold unroot
  split
  · exact get4_range b 12
  · exact ⟨by decide, by decide⟩
theorem bestStep_ok (n : Int) (acc : Rt) (b : List UInt8) (h : acc.ok) : (bestStep n acc b).ok := by
  unfold bestStep
  split
  · exact opt_ok b
  · exact h
theorem bestRt_ok (n : Int) (rows : List (List UInt8)) : (bestRt n rows).ok := by
  unfold bestRt
  suffices h : ∀ acc : Rt, acc.ok → (rows.foldl (bestStep n) acc).ok from h _ ⟨by decide, by decide⟩
  induction rows with
  | nil => exact fun _ h => h
  | cons b rows ih => exact fun acc h => ih _ (bestStep_ok n acc b h)
def Rt.cells (r : Rt) : Array Value := #[.int .i64 r.log, .int .i64 r.pages, .int .u32 r.epoch]
theorem rt_block {w : World} {b : Nat} {r : Rt} (h : w.heap[b]? = some (.cells r.cells 65)) : w.cell? ⟨b, 0, none⟩ = some (.int .i64 r.log) ∧ w.cell? ⟨b, 1, none⟩ = some (.int .i64 r.pages) ∧ w.cell? ⟨b, 2, none⟩ = some (.int .u32 r.epoch) ∧ w.frozen? ⟨b, 0, none⟩ = false ∧ w.frozen? ⟨b, 1, none⟩ = false ∧ w.frozen? ⟨b, 2, none⟩ = false := by
  have h0 := blk_cell h 0
  have h1 := blk_cell h 1
  have h2 := blk_cell h 2
  simp [Rt.cells] at h0 h1 h2
  exact ⟨h0, h1, h2, blk_free h 0, blk_free h 1, blk_free h 2⟩
theorem rt_store {w : World} {b : Nat} {r : Rt} (h : w.heap[b]? = some (.cells r.cells 65)) (q : Rt) : (((w.setCell ⟨b, 0, none⟩ (.int .i64 q.log)).setCell ⟨b, 1, none⟩ (.int .i64 q.pages)).setCell ⟨b, 2, none⟩ (.int .u32 q.epoch)).heap[b]? = some (.cells q.cells 65) := by
  rw [blk_set (blk_set (blk_set h _ _) _ _) _ _]
  simp [Rt.cells]
theorem rt_other {w : World} {b j : Nat} (hj : j ≠ b) (x y z : Value) : (((w.setCell ⟨b, 0, none⟩ x).setCell ⟨b, 1, none⟩ y).setCell ⟨b, 2, none⟩ z).heap[j]? = w.heap[j]? := by
  rw [Below.heap_setCell _ _ _ _ hj, Below.heap_setCell _ _ _ _ hj, Below.heap_setCell _ _ _ _ hj]
set_option maxHeartbeats 4000000 in
theorem root_Best {w : World} {S : Nat → Prop} {a : Nat} {D : Dk} (h : DkAt w S a D) :
    Calls Try.prog 33 #[.pointer (some ⟨a, 0, none⟩)] w fun e w' => e = .returned (.tuple #[(bestRt D.len [D.row 0, D.row 1]).val, .bool (decide (0 < (bestRt D.len [D.row 0, D.row 1]).epoch))]) ∧ Below w.heap.size w w' := by
  have H := Lib.hid h
  have hlt := h.lt a h.mem
  obtain ⟨n, hn⟩ : ∃ n : Nat, n = D.len := ⟨_, rfl⟩
  obtain ⟨rows, hrows⟩ : ∃ rows, rows = [D.row 0, D.row 1] := ⟨_, rfl⟩
  rw [← hrows, ← hn]
  have Hrows := Lib.hid hrows
  have Hn := Lib.hid hn
  have hn160 : (n : Int) ≤ 160 := by
    have h1 := h.okD.most
    have h2 := D.len_eq h.okD
    omega
  clear h hn hrows
  go_enter Try.func33, Try.ntmps33
  go_wp2_with (fail)
  go_loopw [13] (fun i wr => ∃ k : Nat, k ≤ 2 ∧ i = .int .i64 k ∧ Hid (wr.heap[w.heap.size]? = some (.cells Rt.zero.cells 65)) ∧ Hid (wr.heap[w.heap.size + 1]? = some (.cells (bestRt n (rows.take k)).cells 65)) ∧ Hid (Below w.heap.size w wr)) (fun i _ => 2 - (intOf i).toNat)
  case atStart =>
    refine ⟨0, by omega, rfl, blk_alloc (heap_alloc_new w _) _, ?_, ((Below.refl _ _).alloc (Nat.le_refl _) _).alloc (by simp) _⟩
    have h := heap_alloc_new (w.alloc (.cells #[.int .i64 0, .int .i64 0, .int .u32 0] 65)) (.cells #[.int .i64 0, .int .i64 0, .int .u32 0] 65)
    rw [World.size_alloc] at h
    exact h
  case round =>
    obtain ⟨k, hk, rfl, HZ, HA, HB⟩ := hrel
    by_cases hlt2 : k < 2
    · obtain ⟨b, hb⟩ : ∃ b, rows[k]? = some b := by
        rw [Hrows.out]
        rcases (show k = 0 ∨ k = 1 by omega) with rfl | rfl
        · exact ⟨_, rfl⟩
        · exact ⟨_, rfl⟩
      have hrow : D.row (k : Int) = b := by
        rw [Hrows.out] at hb
        rcases (show k = 0 ∨ k = 1 by omega) with rfl | rfl
        · simpa using hb
        · simpa using hb
      have hbt := bestRt_take n rows k b hb
      obtain ⟨acc, hacc⟩ : ∃ acc, acc = bestRt n (rows.take k) := ⟨_, rfl⟩
      rw [← hacc] at HA hbt
      have hbt := Lib.hid hbt
      have hacco : acc.ok := hacc ▸ bestRt_ok n _
      have Hacco := Lib.hid hacco
      have hrow := Lib.hid hrow
      clear hb hacc hacco
      have hdk := Lib.hid (H.out.below HB.out)
      go_wp2_with (fail)
      refine (disk_Read hdk.out (k : Int)).mono ?_
      rintro e w2 ⟨A2, c2, rfl, ho2, hb2⟩
      rw [hrow.out] at ho2 ⊢
      go_wp2_with (fail)
      refine (root_Read w2 A2 b.length c2 b rfl (own_capA ho2) (by rw [← hrow.out, row_length H.out.okD]; split <;> omega) (own_rd ho2)).mono ?_
      rintro e w3 ⟨rfl, hb3⟩
      obtain ⟨r, hr⟩ : ∃ r, r = Rt.opt (unroot b) := ⟨_, rfl⟩
      obtain ⟨ok, hok⟩ : ∃ ok, ok = (unroot b).isSome := ⟨_, rfl⟩
      rw [← hr, ← hok]
      have hro : r.ok := hr ▸ opt_ok b
      have hst : Hid (bestStep n acc b = if ok && (rightB r n && decide (acc.epoch < r.epoch)) then r else acc) := by
        rw [hr, hok]
        rfl
      have hszr : w.heap.size + 1 < wr.heap.size := blk_lt HA.out
      have hsz2 := hb2.size
      have hsz3 := hb3.size
      have HB3 : Hid (Below w.heap.size w w3) := below_more (below_more HB hb2) hb3
      have HZ3 : Hid (w3.heap[w.heap.size]? = some (.cells Rt.zero.cells 65)) := (hb3.block _ (by omega)).trans ((hb2.block _ (by omega)).trans HZ.out)
      have HA3 : Hid (w3.heap[w.heap.size + 1]? = some (.cells acc.cells 65)) := (hb3.block _ (by omega)).trans ((hb2.block _ (by omega)).trans HA.out)
      have hs3 : w.heap.size + 1 < w3.heap.size := by omega
      clear hr hok ho2 hb2 hb3 hsz2 hsz3
      have HZ4 := Lib.hid fun o => blk_alloc HZ3.out o
      have HA4 := Lib.hid fun o => blk_alloc HA3.out o
      have HB4 := Lib.hid fun o => HB3.out.alloc (by omega) o
      have hdk4 := Lib.hid fun o => H.out.below (HB4.out o)
      have HR4 := Lib.hid (heap_alloc_new w3 (.cells r.cells 65))
      obtain ⟨a0, a1, a2, af0, af1, af2⟩ := rt_block (HA4.out (.cells r.cells 65))
      obtain ⟨r0, r1, r2, rf0, rf1, rf2⟩ := rt_block HR4.out
      have hrange := hro
      have Hro := Lib.hid hro
      unfold Rt.val
      unfold Rt.ok at hrange
      unfold Rt.cells at a0 a1 a2 r0 r1 r2 af0 af1 af2
      cases ok with
      | false =>
        go_wp2_with (fail)
        go_quiet (fail)
        go_wp2
        go_roundw
        case rel => exact ⟨k + 1, by omega, by go_num, HZ4.out _, by rw [hbt.out, hst.out]; exact HA4.out _, below_drewN' (HB4.out _) _⟩
        case measure => simp [intOf]; omega
      | true =>
        cases hrb : rightB r n with
        | false =>
          have hrb' := Lib.hid hrb
          clear hrb
          go_wp2_with (fail)
          refine wp_region_held_drew (S := (fun w' => w'.cell? ⟨w.heap.size + 1, 2, none⟩ = some (.int .u32 acc.epoch) ∧ w'.cell? ⟨w3.heap.size, 0, none⟩ = some (.int .i64 r.log) ∧ w'.cell? ⟨w3.heap.size, 1, none⟩ = some (.int .i64 r.pages) ∧ w'.cell? ⟨w3.heap.size, 2, none⟩ = some (.int .u32 r.epoch))) (by kernel_rfl) (by go_keep) (fun hHeld => ?_)
          refine wpAnyH_take (i := 0) (v := ?_) (by rfl) (by kernel_rfl) (by kernel_rfl) (by kernel_rfl) (by exact fun _ _ _ h => h) (Or.inl ⟨by rfl, ?_⟩) (by assumption) ?_
          rotate_left
          · intro w' hSw
            try dsimp only at hSw
            go_simp
            try with_reducible rfl
          try simp only [Act.put, List.getElem_toArray, List.getElem_cons_zero, List.getElem_cons_succ, List.setIfInBounds_toArray, List.set_cons_zero, List.set_cons_succ]
          refine wpAnyH_take (i := 1) (v := ?_) (by rfl) (by kernel_rfl) (by kernel_rfl) (by kernel_rfl) (by exact fun _ _ _ h => h) (Or.inl ⟨by rfl, ?_⟩) (by assumption) ?_
          rotate_left
          · intro w' hSw
            try dsimp only at hSw
            go_simp
            try with_reducible rfl
          try simp only [Act.put, List.getElem_toArray, List.getElem_cons_zero, List.getElem_cons_succ, List.setIfInBounds_toArray, List.set_cons_zero, List.set_cons_succ]
          refine wpAnyH_take (i := 2) (v := ?_) (by rfl) (by kernel_rfl) (by kernel_rfl) (by kernel_rfl) (by exact fun _ _ _ h => h) (Or.inl ⟨by rfl, ?_⟩) (by assumption) ?_
          rotate_left
          · intro w' hSw
            try dsimp only at hSw
            go_simp
            try with_reducible rfl
          try simp only [Act.put, List.getElem_toArray, List.getElem_cons_zero, List.getElem_cons_succ, List.setIfInBounds_toArray, List.set_cons_zero, List.set_cons_succ]
          refine wpAnyH_take (i := 3) (v := ?_) (by rfl) (by kernel_rfl) (by kernel_rfl) (by kernel_rfl) (by exact fun _ _ _ h => h) (Or.inl ⟨by rfl, ?_⟩) (by assumption) ?_
          rotate_left
          · intro w' hSw
            try dsimp only at hSw
            go_simp
            try with_reducible rfl
          try simp only [Act.put, List.getElem_toArray, List.getElem_cons_zero, List.getElem_cons_succ, List.setIfInBounds_toArray, List.set_cons_zero, List.set_cons_succ]
          refine wpAnyH_ready (rs := [4]) (by kernel_rfl) (by simp) ?_
          refine AllReadyH.cons rfl (fun K hK => ?_) AllReadyH.nil
          rw [if_pos (by rfl)]
          go_simp
          go_at_call 70
          refine (disk_Len (DkAt.drewd (hdk4.out _))).mono ?_
          rintro e4 w4 ⟨rfl, rfl⟩
          rw [← Hn.out]
          go_wp2_with (fail)
          refine hK.out _ _ (by assumption) (fun hHeld => ?_)
          clear hK K
          try simp only [Act.put, List.getElem_toArray, List.getElem_cons_zero, List.getElem_cons_succ, List.setIfInBounds_toArray, List.set_cons_zero, List.set_cons_succ]
          refine wpAnyH_ready (rs := [5]) (by kernel_rfl) (by simp) ?_
          refine AllReadyH.cons rfl (fun K hK => ?_) AllReadyH.nil
          rw [if_pos (by rfl)]
          go_simp
          go_at_call 52
          refine (root_Right r n _ (by omega)).mono ?_
          rintro e5 w5 ⟨rfl, o5, rfl⟩
          rw [hrb'.out]
          go_wp2_with (fail)
          refine hK.out _ _ (by go_keep) (fun hHeld => ?_)
          clear hK K
          try simp only [Act.put, List.getElem_toArray, List.getElem_cons_zero, List.getElem_cons_succ, List.setIfInBounds_toArray, List.set_cons_zero, List.set_cons_succ]
          refine wpAnyH_take (i := 6) (v := ?_) (by rfl) (by kernel_rfl) (by kernel_rfl) (by kernel_rfl) (by exact fun _ _ _ h => h) (Or.inl ⟨by rfl, ?_⟩) (by assumption) ?_
          rotate_left
          · intro w' hSw
            try dsimp only at hSw
            go_simp
            try with_reducible rfl
          try simp only [Act.put, List.getElem_toArray, List.getElem_cons_zero, List.getElem_cons_succ, List.setIfInBounds_toArray, List.set_cons_zero, List.set_cons_succ]
          refine wpAnyH_take (i := 7) (v := ?_) (by rfl) (by kernel_rfl) (by kernel_rfl) (by kernel_rfl) (by exact fun _ _ _ h => h) (Or.inl ⟨by rfl, ?_⟩) (by assumption) ?_
          rotate_left
          · intro w' hSw
            try dsimp only at hSw
            go_simp
            try with_reducible rfl
          try simp only [Act.put, List.getElem_toArray, List.getElem_cons_zero, List.getElem_cons_succ, List.setIfInBounds_toArray, List.set_cons_zero, List.set_cons_succ]
          refine wpAnyH_take (i := 8) (v := undef) (by rfl) (by kernel_rfl) (by kernel_rfl) (by kernel_rfl) (by exact fun _ _ _ h => h) (Or.inr ⟨by rfl, rfl⟩) (by assumption) ?_
          try simp only [Act.put, List.getElem_toArray, List.getElem_cons_zero, List.getElem_cons_succ, List.setIfInBounds_toArray, List.set_cons_zero, List.set_cons_succ]
          refine wpAnyH_take (i := 9) (v := undef) (by rfl) (by kernel_rfl) (by kernel_rfl) (by kernel_rfl) (by exact fun _ _ _ h => h) (Or.inr ⟨by rfl, rfl⟩) (by assumption) ?_
          try simp only [Act.put, List.getElem_toArray, List.getElem_cons_zero, List.getElem_cons_succ, List.setIfInBounds_toArray, List.set_cons_zero, List.set_cons_succ]
          refine wpAnyH_take (i := 10) (v := undef) (by rfl) (by kernel_rfl) (by kernel_rfl) (by kernel_rfl) (by exact fun _ _ _ h => h) (Or.inr ⟨by rfl, rfl⟩) (by assumption) ?_
          try simp only [Act.put, List.getElem_toArray, List.getElem_cons_zero, List.getElem_cons_succ, List.setIfInBounds_toArray, List.set_cons_zero, List.set_cons_succ]
          refine wpAnyH_take (i := 11) (v := undef) (by rfl) (by kernel_rfl) (by kernel_rfl) (by kernel_rfl) (by exact fun _ _ _ h => h) (Or.inr ⟨by rfl, rfl⟩) (by assumption) ?_
          try simp only [Act.put, List.getElem_toArray, List.getElem_cons_zero, List.getElem_cons_succ, List.setIfInBounds_toArray, List.set_cons_zero, List.set_cons_succ]
          refine wpAnyH_take (i := 12) (v := undef) (by rfl) (by kernel_rfl) (by kernel_rfl) (by kernel_rfl) (by exact fun _ _ _ h => h) (Or.inr ⟨by rfl, rfl⟩) (by assumption) ?_
          try simp only [Act.put, List.getElem_toArray, List.getElem_cons_zero, List.getElem_cons_succ, List.setIfInBounds_toArray, List.set_cons_zero, List.set_cons_succ]
          refine wpAnyH_take (i := 13) (v := ?_) (by rfl) (by kernel_rfl) (by kernel_rfl) (by kernel_rfl) (by exact fun _ _ _ h => h) (Or.inl ⟨by rfl, ?_⟩) (by assumption) ?_
          rotate_left
          · intro w' hSw
            try dsimp only at hSw
            go_simp
            try with_reducible rfl
          try simp only [Act.put, List.getElem_toArray, List.getElem_cons_zero, List.getElem_cons_succ, List.setIfInBounds_toArray, List.set_cons_zero, List.set_cons_succ]
          refine wpAnyH_done (by kernel_rfl) ?_ _
          go_wp2
          go_roundw
          case rel =>
            refine ⟨k + 1, by omega, by go_num, blk_alloc (HZ4.out _) _, ?_, below_drewN' ((HB4.out _).alloc (HB4.out _).size _) 1⟩
            rw [hbt.out, hst.out, hrb'.out]
            exact blk_alloc (HA4.out _) _
          case measure => simp [intOf]; omega
        | true =>
          have hrb' := Lib.hid hrb
          clear hrb
          by_cases hgt : acc.epoch < r.epoch
          · have hdg : decide (acc.epoch < r.epoch) = true := decide_eq_true hgt
            go_wp2_with (fail)
            refine wp_region_held_drew (S := (fun w' => w'.cell? ⟨w.heap.size + 1, 2, none⟩ = some (.int .u32 acc.epoch) ∧ w'.cell? ⟨w3.heap.size, 0, none⟩ = some (.int .i64 r.log) ∧ w'.cell? ⟨w3.heap.size, 1, none⟩ = some (.int .i64 r.pages) ∧ w'.cell? ⟨w3.heap.size, 2, none⟩ = some (.int .u32 r.epoch))) (by kernel_rfl) (by go_keep) (fun hHeld => ?_)
            refine wpAnyH_take (i := 0) (v := ?_) (by rfl) (by kernel_rfl) (by kernel_rfl) (by kernel_rfl) (by exact fun _ _ _ h => h) (Or.inl ⟨by rfl, ?_⟩) (by assumption) ?_
            rotate_left
            · intro w' hSw
              try dsimp only at hSw
              go_simp
              try with_reducible rfl
            try simp only [Act.put, List.getElem_toArray, List.getElem_cons_zero, List.getElem_cons_succ, List.setIfInBounds_toArray, List.set_cons_zero, List.set_cons_succ]
            refine wpAnyH_take (i := 1) (v := ?_) (by rfl) (by kernel_rfl) (by kernel_rfl) (by kernel_rfl) (by exact fun _ _ _ h => h) (Or.inl ⟨by rfl, ?_⟩) (by assumption) ?_
            rotate_left
            · intro w' hSw
              try dsimp only at hSw
              go_simp
              try with_reducible rfl
            try simp only [Act.put, List.getElem_toArray, List.getElem_cons_zero, List.getElem_cons_succ, List.setIfInBounds_toArray, List.set_cons_zero, List.set_cons_succ]
            refine wpAnyH_take (i := 2) (v := ?_) (by rfl) (by kernel_rfl) (by kernel_rfl) (by kernel_rfl) (by exact fun _ _ _ h => h) (Or.inl ⟨by rfl, ?_⟩) (by assumption) ?_
            rotate_left
            · intro w' hSw
              try dsimp only at hSw
              go_simp
              try with_reducible rfl
            try simp only [Act.put, List.getElem_toArray, List.getElem_cons_zero, List.getElem_cons_succ, List.setIfInBounds_toArray, List.set_cons_zero, List.set_cons_succ]
            refine wpAnyH_take (i := 3) (v := ?_) (by rfl) (by kernel_rfl) (by kernel_rfl) (by kernel_rfl) (by exact fun _ _ _ h => h) (Or.inl ⟨by rfl, ?_⟩) (by assumption) ?_
            rotate_left
            · intro w' hSw
              try dsimp only at hSw
              go_simp
              try with_reducible rfl
            try simp only [Act.put, List.getElem_toArray, List.getElem_cons_zero, List.getElem_cons_succ, List.setIfInBounds_toArray, List.set_cons_zero, List.set_cons_succ]
            refine wpAnyH_ready (rs := [4]) (by kernel_rfl) (by simp) ?_
            refine AllReadyH.cons rfl (fun K hK => ?_) AllReadyH.nil
            rw [if_pos (by rfl)]
            go_simp
            go_at_call 70
            refine (disk_Len (DkAt.drewd (hdk4.out _))).mono ?_
            rintro e4 w4 ⟨rfl, rfl⟩
            rw [← Hn.out]
            go_wp2_with (fail)
            refine hK.out _ _ (by assumption) (fun hHeld => ?_)
            clear hK K
            try simp only [Act.put, List.getElem_toArray, List.getElem_cons_zero, List.getElem_cons_succ, List.setIfInBounds_toArray, List.set_cons_zero, List.set_cons_succ]
            refine wpAnyH_ready (rs := [5]) (by kernel_rfl) (by simp) ?_
            refine AllReadyH.cons rfl (fun K hK => ?_) AllReadyH.nil
            rw [if_pos (by rfl)]
            go_simp
            go_at_call 52
            refine (root_Right r n _ (by omega)).mono ?_
            rintro e5 w5 ⟨rfl, o5, rfl⟩
            rw [hrb'.out]
            go_wp2_with (fail)
            refine hK.out _ _ (by go_keep) (fun hHeld => ?_)
            clear hK K
            try simp only [Act.put, List.getElem_toArray, List.getElem_cons_zero, List.getElem_cons_succ, List.setIfInBounds_toArray, List.set_cons_zero, List.set_cons_succ]
            refine wpAnyH_take (i := 6) (v := ?_) (by rfl) (by kernel_rfl) (by kernel_rfl) (by kernel_rfl) (by exact fun _ _ _ h => h) (Or.inl ⟨by rfl, ?_⟩) (by assumption) ?_
            rotate_left
            · intro w' hSw
              try dsimp only at hSw
              go_simp
              try with_reducible rfl
            try simp only [Act.put, List.getElem_toArray, List.getElem_cons_zero, List.getElem_cons_succ, List.setIfInBounds_toArray, List.set_cons_zero, List.set_cons_succ]
            refine wpAnyH_take (i := 7) (v := ?_) (by rfl) (by kernel_rfl) (by kernel_rfl) (by kernel_rfl) (by exact fun _ _ _ h => h) (Or.inl ⟨by rfl, ?_⟩) (by assumption) ?_
            rotate_left
            · intro w' hSw
              try dsimp only at hSw
              go_simp
              try with_reducible rfl
            try simp only [Act.put, List.getElem_toArray, List.getElem_cons_zero, List.getElem_cons_succ, List.setIfInBounds_toArray, List.set_cons_zero, List.set_cons_succ]
            refine wpAnyH_take (i := 8) (v := ?_) (by rfl) (by kernel_rfl) (by kernel_rfl) (by kernel_rfl) (by exact fun _ _ _ h => h) (Or.inl ⟨by rfl, ?_⟩) (by assumption) ?_
            rotate_left
            · intro w' hSw
              try dsimp only at hSw
              go_simp
              try with_reducible rfl
            try simp only [Act.put, List.getElem_toArray, List.getElem_cons_zero, List.getElem_cons_succ, List.setIfInBounds_toArray, List.set_cons_zero, List.set_cons_succ]
            refine wpAnyH_take (i := 9) (v := ?_) (by rfl) (by kernel_rfl) (by kernel_rfl) (by kernel_rfl) (by exact fun _ _ _ h => h) (Or.inl ⟨by rfl, ?_⟩) (by assumption) ?_
            rotate_left
            · intro w' hSw
              try dsimp only at hSw
              go_simp
              try with_reducible rfl
            try simp only [Act.put, List.getElem_toArray, List.getElem_cons_zero, List.getElem_cons_succ, List.setIfInBounds_toArray, List.set_cons_zero, List.set_cons_succ]
            refine wpAnyH_take (i := 10) (v := ?_) (by rfl) (by kernel_rfl) (by kernel_rfl) (by kernel_rfl) (by exact fun _ _ _ h => h) (Or.inl ⟨by rfl, ?_⟩) (by assumption) ?_
            rotate_left
            · intro w' hSw
              try dsimp only at hSw
              go_simp
              try with_reducible rfl
            try simp only [Act.put, List.getElem_toArray, List.getElem_cons_zero, List.getElem_cons_succ, List.setIfInBounds_toArray, List.set_cons_zero, List.set_cons_succ]
            refine wpAnyH_take (i := 11) (v := ?_) (by rfl) (by kernel_rfl) (by kernel_rfl) (by kernel_rfl) (by exact fun _ _ _ h => h) (Or.inl ⟨by rfl, ?_⟩) (by assumption) ?_
            rotate_left
            · intro w' hSw
              try dsimp only at hSw
              go_simp
              try with_reducible rfl
            try simp only [Act.put, List.getElem_toArray, List.getElem_cons_zero, List.getElem_cons_succ, List.setIfInBounds_toArray, List.set_cons_zero, List.set_cons_succ]
            refine wpAnyH_take (i := 12) (v := ?_) (by rfl) (by kernel_rfl) (by kernel_rfl) (by kernel_rfl) (by exact fun _ _ _ h => h) (Or.inl ⟨by rfl, ?_⟩) (by assumption) ?_
            rotate_left
            · intro w' hSw
              try dsimp only at hSw
              go_simp
              try with_reducible rfl
            try simp only [Act.put, List.getElem_toArray, List.getElem_cons_zero, List.getElem_cons_succ, List.setIfInBounds_toArray, List.set_cons_zero, List.set_cons_succ]
            refine wpAnyH_take (i := 13) (v := ?_) (by rfl) (by kernel_rfl) (by kernel_rfl) (by kernel_rfl) (by exact fun _ _ _ h => h) (Or.inl ⟨by rfl, ?_⟩) (by assumption) ?_
            rotate_left
            · intro w' hSw
              try dsimp only at hSw
              go_simp
              try with_reducible rfl
            try simp only [Act.put, List.getElem_toArray, List.getElem_cons_zero, List.getElem_cons_succ, List.setIfInBounds_toArray, List.set_cons_zero, List.set_cons_succ]
            refine wpAnyH_done (by kernel_rfl) ?_ _
            obtain ⟨W5, hW5⟩ : ∃ W5, W5 = ((w3.alloc (.cells #[.int .i64 r.log, .int .i64 r.pages, .int .u32 r.epoch] 65)).alloc o5).drew := ⟨_, rfl⟩
            have HZ5 : Hid (W5.heap[w.heap.size]? = some (.cells Rt.zero.cells 65)) := by rw [hW5]; exact blk_alloc (HZ4.out _) _
            have HA5 : Hid (W5.heap[w.heap.size + 1]? = some (.cells acc.cells 65)) := by rw [hW5]; exact blk_alloc (HA4.out _) _
            have HR5 : Hid (W5.heap[w3.heap.size]? = some (.cells r.cells 65)) := by rw [hW5]; exact blk_alloc HR4.out _
            have HB5 : Hid (Below w.heap.size w W5) := by rw [hW5]; exact below_drewN' ((HB4.out (.cells #[.int .i64 r.log, .int .i64 r.pages, .int .u32 r.epoch] 65)).alloc (HB4.out (.cells #[.int .i64 r.log, .int .i64 r.pages, .int .u32 r.epoch] 65)).size _) 1
            rw [← hW5]
            clear hW5 a0 a1 a2 r0 r1 r2 af0 af1 af2 rf0 rf1 rf2 hHeld
            obtain ⟨a0, a1, a2, af0, af1, af2⟩ := rt_block HA5.out
            obtain ⟨r0, r1, r2, rf0, rf1, rf2⟩ := rt_block HR5.out
            go_wp2
            go_roundw
            case rel =>
              refine ⟨k + 1, by omega, by go_num, (rt_other (by omega) _ _ _).trans HZ5.out, ?_, ((HB5.out.setCell (Nat.le_succ _) _).setCell (Nat.le_succ _) _).setCell (Nat.le_succ _) _⟩
              rw [hbt.out, hst.out, hrb'.out, hdg]
              exact rt_store HA5.out r
            case measure => simp [intOf]; omega
          · have hdg : decide (acc.epoch < r.epoch) = false := decide_eq_false hgt
            go_wp2_with (fail)
            refine wp_region_held_drew (S := (fun w' => w'.cell? ⟨w.heap.size + 1, 2, none⟩ = some (.int .u32 acc.epoch) ∧ w'.cell? ⟨w3.heap.size, 0, none⟩ = some (.int .i64 r.log) ∧ w'.cell? ⟨w3.heap.size, 1, none⟩ = some (.int .i64 r.pages) ∧ w'.cell? ⟨w3.heap.size, 2, none⟩ = some (.int .u32 r.epoch))) (by kernel_rfl) (by go_keep) (fun hHeld => ?_)
            refine wpAnyH_take (i := 0) (v := ?_) (by rfl) (by kernel_rfl) (by kernel_rfl) (by kernel_rfl) (by exact fun _ _ _ h => h) (Or.inl ⟨by rfl, ?_⟩) (by assumption) ?_
            rotate_left
            · intro w' hSw
              try dsimp only at hSw
              go_simp
              try with_reducible rfl
            try simp only [Act.put, List.getElem_toArray, List.getElem_cons_zero, List.getElem_cons_succ, List.setIfInBounds_toArray, List.set_cons_zero, List.set_cons_succ]
            refine wpAnyH_take (i := 1) (v := ?_) (by rfl) (by kernel_rfl) (by kernel_rfl) (by kernel_rfl) (by exact fun _ _ _ h => h) (Or.inl ⟨by rfl, ?_⟩) (by assumption) ?_
            rotate_left
            · intro w' hSw
              try dsimp only at hSw
              go_simp
              try with_reducible rfl
            try simp only [Act.put, List.getElem_toArray, List.getElem_cons_zero, List.getElem_cons_succ, List.setIfInBounds_toArray, List.set_cons_zero, List.set_cons_succ]
            refine wpAnyH_take (i := 2) (v := ?_) (by rfl) (by kernel_rfl) (by kernel_rfl) (by kernel_rfl) (by exact fun _ _ _ h => h) (Or.inl ⟨by rfl, ?_⟩) (by assumption) ?_
            rotate_left
            · intro w' hSw
              try dsimp only at hSw
              go_simp
              try with_reducible rfl
            try simp only [Act.put, List.getElem_toArray, List.getElem_cons_zero, List.getElem_cons_succ, List.setIfInBounds_toArray, List.set_cons_zero, List.set_cons_succ]
            refine wpAnyH_take (i := 3) (v := ?_) (by rfl) (by kernel_rfl) (by kernel_rfl) (by kernel_rfl) (by exact fun _ _ _ h => h) (Or.inl ⟨by rfl, ?_⟩) (by assumption) ?_
            rotate_left
            · intro w' hSw
              try dsimp only at hSw
              go_simp
              try with_reducible rfl
            try simp only [Act.put, List.getElem_toArray, List.getElem_cons_zero, List.getElem_cons_succ, List.setIfInBounds_toArray, List.set_cons_zero, List.set_cons_succ]
            refine wpAnyH_ready (rs := [4]) (by kernel_rfl) (by simp) ?_
            refine AllReadyH.cons rfl (fun K hK => ?_) AllReadyH.nil
            rw [if_pos (by rfl)]
            go_simp
            go_at_call 70
            refine (disk_Len (DkAt.drewd (hdk4.out _))).mono ?_
            rintro e4 w4 ⟨rfl, rfl⟩
            rw [← Hn.out]
            go_wp2_with (fail)
            refine hK.out _ _ (by assumption) (fun hHeld => ?_)
            clear hK K
            try simp only [Act.put, List.getElem_toArray, List.getElem_cons_zero, List.getElem_cons_succ, List.setIfInBounds_toArray, List.set_cons_zero, List.set_cons_succ]
            refine wpAnyH_ready (rs := [5]) (by kernel_rfl) (by simp) ?_
            refine AllReadyH.cons rfl (fun K hK => ?_) AllReadyH.nil
            rw [if_pos (by rfl)]
            go_simp
            go_at_call 52
            refine (root_Right r n _ (by omega)).mono ?_
            rintro e5 w5 ⟨rfl, o5, rfl⟩
            rw [hrb'.out]
            go_wp2_with (fail)
            refine hK.out _ _ (by go_keep) (fun hHeld => ?_)
            clear hK K
            try simp only [Act.put, List.getElem_toArray, List.getElem_cons_zero, List.getElem_cons_succ, List.setIfInBounds_toArray, List.set_cons_zero, List.set_cons_succ]
            refine wpAnyH_take (i := 6) (v := ?_) (by rfl) (by kernel_rfl) (by kernel_rfl) (by kernel_rfl) (by exact fun _ _ _ h => h) (Or.inl ⟨by rfl, ?_⟩) (by assumption) ?_
            rotate_left
            · intro w' hSw
              try dsimp only at hSw
              go_simp
              try with_reducible rfl
            try simp only [Act.put, List.getElem_toArray, List.getElem_cons_zero, List.getElem_cons_succ, List.setIfInBounds_toArray, List.set_cons_zero, List.set_cons_succ]
            refine wpAnyH_take (i := 7) (v := ?_) (by rfl) (by kernel_rfl) (by kernel_rfl) (by kernel_rfl) (by exact fun _ _ _ h => h) (Or.inl ⟨by rfl, ?_⟩) (by assumption) ?_
            rotate_left
            · intro w' hSw
              try dsimp only at hSw
              go_simp
              try with_reducible rfl
            try simp only [Act.put, List.getElem_toArray, List.getElem_cons_zero, List.getElem_cons_succ, List.setIfInBounds_toArray, List.set_cons_zero, List.set_cons_succ]
            refine wpAnyH_take (i := 8) (v := ?_) (by rfl) (by kernel_rfl) (by kernel_rfl) (by kernel_rfl) (by exact fun _ _ _ h => h) (Or.inl ⟨by rfl, ?_⟩) (by assumption) ?_
            rotate_left
            · intro w' hSw
              try dsimp only at hSw
              go_simp
              try with_reducible rfl
            try simp only [Act.put, List.getElem_toArray, List.getElem_cons_zero, List.getElem_cons_succ, List.setIfInBounds_toArray, List.set_cons_zero, List.set_cons_succ]
            refine wpAnyH_take (i := 9) (v := ?_) (by rfl) (by kernel_rfl) (by kernel_rfl) (by kernel_rfl) (by exact fun _ _ _ h => h) (Or.inl ⟨by rfl, ?_⟩) (by assumption) ?_
            rotate_left
            · intro w' hSw
              try dsimp only at hSw
              go_simp
              try with_reducible rfl
            try simp only [Act.put, List.getElem_toArray, List.getElem_cons_zero, List.getElem_cons_succ, List.setIfInBounds_toArray, List.set_cons_zero, List.set_cons_succ]
            refine wpAnyH_take (i := 10) (v := ?_) (by rfl) (by kernel_rfl) (by kernel_rfl) (by kernel_rfl) (by exact fun _ _ _ h => h) (Or.inl ⟨by rfl, ?_⟩) (by assumption) ?_
            rotate_left
            · intro w' hSw
              try dsimp only at hSw
              go_simp
              try with_reducible rfl
            try simp only [Act.put, List.getElem_toArray, List.getElem_cons_zero, List.getElem_cons_succ, List.setIfInBounds_toArray, List.set_cons_zero, List.set_cons_succ]
            refine wpAnyH_take (i := 11) (v := ?_) (by rfl) (by kernel_rfl) (by kernel_rfl) (by kernel_rfl) (by exact fun _ _ _ h => h) (Or.inl ⟨by rfl, ?_⟩) (by assumption) ?_
            rotate_left
            · intro w' hSw
              try dsimp only at hSw
              go_simp
              try with_reducible rfl
            try simp only [Act.put, List.getElem_toArray, List.getElem_cons_zero, List.getElem_cons_succ, List.setIfInBounds_toArray, List.set_cons_zero, List.set_cons_succ]
            refine wpAnyH_take (i := 12) (v := ?_) (by rfl) (by kernel_rfl) (by kernel_rfl) (by kernel_rfl) (by exact fun _ _ _ h => h) (Or.inl ⟨by rfl, ?_⟩) (by assumption) ?_
            rotate_left
            · intro w' hSw
              try dsimp only at hSw
              go_simp
              try with_reducible rfl
            try simp only [Act.put, List.getElem_toArray, List.getElem_cons_zero, List.getElem_cons_succ, List.setIfInBounds_toArray, List.set_cons_zero, List.set_cons_succ]
            refine wpAnyH_take (i := 13) (v := ?_) (by rfl) (by kernel_rfl) (by kernel_rfl) (by kernel_rfl) (by exact fun _ _ _ h => h) (Or.inl ⟨by rfl, ?_⟩) (by assumption) ?_
            rotate_left
            · intro w' hSw
              try dsimp only at hSw
              go_simp
              try with_reducible rfl
            try simp only [Act.put, List.getElem_toArray, List.getElem_cons_zero, List.getElem_cons_succ, List.setIfInBounds_toArray, List.set_cons_zero, List.set_cons_succ]
            refine wpAnyH_done (by kernel_rfl) ?_ _
            go_wp2
            go_roundw
            case rel =>
              refine ⟨k + 1, by omega, by go_num, blk_alloc (HZ4.out _) _, ?_, below_drewN' ((HB4.out _).alloc (HB4.out _).size _) 1⟩
              rw [hbt.out, hst.out, hrb'.out, hdg]
              exact blk_alloc (HA4.out _) _
            case measure => simp [intOf]; omega
    · obtain rfl : k = 2 := by omega
      have hl : rows.take 2 = [D.row 0, D.row 1] := by rw [Hrows.out]; rfl
      rw [← Hrows.out] at hl
      rw [hl] at HA
      obtain ⟨acc, hacc⟩ : ∃ acc, acc = bestRt n rows := ⟨_, rfl⟩
      rw [← hacc] at HA
      have Hacc := Lib.hid hacc
      have hrange : acc.ok := hacc ▸ bestRt_ok n _
      unfold Rt.ok at hrange
      obtain ⟨a0, a1, a2, af0, af1, af2⟩ := rt_block HA.out
      obtain ⟨z0, z1, z2, zf0, zf1, zf2⟩ := rt_block HZ.out
      clear hacc hl
      go_wp2_with (fail)
      go_region
      all_goals go_wp2
      refine bodyPost_ret (v := .tuple #[acc.val, .bool (decide (0 < acc.epoch))]) (by simp [results, Try.results33, Rt.val, go_sem, z0, z1, z2]) rfl ⟨by rw [← Hacc.out], ?_⟩
      exact below_drewN' (((HB.out.setCell (Nat.le_refl _) _).setCell (Nat.le_refl _) _).setCell (Nat.le_refl _) _) 1
theorem root_Best_nil (w : World) :
    Calls Try.prog 33 #[.pointer none] w fun e w' => e = .returned (.tuple #[Rt.zero.val, .bool false]) ∧ Below w.heap.size w w' := by
  go_enter Try.func33, Try.ntmps33
  go_wp2
  refine bodyPost_ret (v := .tuple #[Rt.zero.val, .bool false]) (by simp [results, Try.results33, Rt.val, Rt.zero, go_sem]) rfl ⟨rfl, ?_⟩
  exact (Below.refl _ _).alloc (Nat.le_refl _) _
end Go.Proofs.Ytdbhhnphpjdmbaa
