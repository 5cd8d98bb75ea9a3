/- The reference's disk: Write. -/
import Derived.Test.YtdbhhnphpjdmbaaRefOf
namespace Go.Proofs.Ytdbhhnphpjdmbaa
open Go.RowKit
set_option maxRecDepth 100000
set_option linter.unusedVariables false
set_option linter.unusedSimpArgs false
theorem splice_take {α : Type} (l xs : List α) (n o : Nat) (h : o + xs.length ≤ n) (hn : n ≤ l.length) : (l.take o ++ xs ++ l.drop (o + xs.length)).take n = (l.take n).take o ++ xs ++ (l.take n).drop (o + xs.length) := by
  have hl : (l.take o ++ xs).length = o + xs.length := by simp; omega
  rw [List.take_take, Nat.min_eq_left (by omega), List.drop_take, List.take_append, List.take_of_length_le (by omega), hl]
/-- one row of a disk of the reference is laid anew -/
theorem RkAt.putRow {w : World} {S : Nat → Prop} {a : Nat} {R : Rk} (h : RkAt w S a R) {nb nc : Nat} (hc : w.cell? ⟨a, 1, none⟩ = some (.slice (some ⟨nb, 0, none⟩) R.now.length nc)) (b : List UInt8) (i : Int) (hfit : i.toNat * 64 + b.length ≤ R.now.length) :
    ∃ cur, w.heap[nb]? = some (.cells cur 5) ∧ S nb ∧ R.now.length ≤ cur.size ∧ RkAt (w.setRow nb (cur.toList.take (i.toNat * 64) ++ bcells b ++ cur.toList.drop (i.toNat * 64 + (bcells b).length)).toArray) S a { R with now := lay R.now i b } := by
  obtain ⟨lb, lc, nb', nc', wb, wc, g1, g2, g3, g4, g5, g6, g7, g8, g9, g10, g11⟩ := h
  have c1 := blk_cell g7 1
  simp at c1
  rw [c1] at hc
  simp at hc
  obtain ⟨rfl, rfl⟩ := hc
  have hn := own_ne g9 g7 (by decide)
  have hane : a ≠ nb' := fun e => hn (by rw [e]; rfl)
  have hwne : wb ≠ nb' := fun e => by
    obtain ⟨x, hx⟩ := own_blk g10 wb rfl
    obtain ⟨y, hy⟩ := own_blk g9 nb' rfl
    rw [e, hy] at hx
    simp at hx
  obtain ⟨h1, h2⟩ := g9
  rcases h2 with ⟨h2, _⟩ | ⟨g, cap, cur, h2, _, h4, h5, h6, h7, h8⟩
  · simp at h2
  simp at h2
  obtain ⟨rfl, rfl⟩ := h2
  rw [Nat.mul_one] at h7 h8
  refine ⟨cur, h4, g3, by omega, ?_⟩
  have hl := lay_length R.now i b hfit
  have ho : ∀ k, k ≠ nb' → (w.setRow nb' (cur.toList.take (i.toNat * 64) ++ bcells b ++ cur.toList.drop (i.toNat * 64 + (bcells b).length)).toArray).heap[k]? = w.heap[k]? := fun k hk => setRow_other w nb' k _ hk
  refine ⟨lb, lc, nb', nc', wb, wc, g1, g2, g3, g4, fun j hj => by simpa [World.setRow] using g5 j hj, g6, by rw [ho a hane, g7]; simp [hl], own_move' g8 (fun k hk => ho k (fun e => g6 (by
    have : lb = k := by simpa [Value.ownBlock] using hk
    rw [this, e]))), ?_, own_move' g10 (fun k hk => ho k (fun e => hwne (by
    have : wb = k := by simpa [Value.ownBlock] using hk
    rw [this, e]))), ⟨g11.some_, g11.most, g11.lasts, by simpa [hl] using g11.now⟩⟩
  rw [hl]
  refine ⟨by simp [bcells_length, hl], .inr ⟨nb', nc', _, rfl, Nat.zero_le _, setRow_heap w nb' cur _ _ (0, 0) h4, h5, h6, ?_, ?_⟩⟩
  · simp [bcells_length]
    omega
  · rw [Nat.mul_one]
    have h9 := splice_take cur.toList (bcells b) R.now.length (i.toNat * 64) (by rw [bcells_length]; exact hfit) (by rw [Array.length_toList]; omega)
    simp only [List.toList_toArray]
    rw [h9, h8]
    unfold lay
    rw [bcells_append, bcells_append, bcells_take, bcells_drop, bcells_length]
/-- .. and a flag -/
theorem RkAt.setFlag {w : World} {S : Nat → Prop} {a : Nat} {R : Rk} (h : RkAt w S a R) {wb wc : Nat} (hc : w.cell? ⟨a, 2, none⟩ = some (.slice (some ⟨wb, 0, none⟩) R.wait.length wc)) (k : Nat) (hk : k < R.wait.length) :
    (∃ v, w.cell? ⟨wb, k, none⟩ = some v) ∧ w.frozen? ⟨wb, k, none⟩ = false ∧ S wb ∧ RkAt (w.setCell ⟨wb, k, none⟩ (.bool true)) S a { R with wait := R.wait.set k true } := by
  obtain ⟨lb, lc, nb, nc, wb', wc', g1, g2, g3, g4, g5, g6, g7, g8, g9, g10, g11⟩ := h
  have c2 := blk_cell g7 2
  simp at c2
  rw [c2] at hc
  simp at hc
  obtain ⟨rfl, rfl⟩ := hc
  have hn := own_ne g10 g7 (by decide)
  have hane : a ≠ wb' := fun e => hn (by rw [e]; rfl)
  have hne : ∀ {k' c' n' xs}, w.ownsRow 0 5 1 (.slice (some ⟨k', 0, none⟩) n' c') n' xs → k' ≠ wb' := fun {k' c' n' xs} ho e => by
    obtain ⟨x, hx⟩ := own_blk ho k' rfl
    obtain ⟨y, hy⟩ := own_blk g10 wb' rfl
    rw [e, hy] at hx
    simp at hx
  have hl := hne g8
  have hnb := hne g9
  obtain ⟨h1, h2⟩ := g10
  rcases h2 with ⟨h2, _⟩ | ⟨g, cap, cur, h2, _, h4, h5, h6, h7, h8⟩
  · simp at h2
  simp at h2
  obtain ⟨rfl, rfl⟩ := h2
  rw [Nat.mul_one] at h7 h8
  have hcell := blk_cell h4 k
  have hks : k < cur.size := by omega
  have ho : ∀ j, j ≠ wb' → (w.setCell ⟨wb', k, none⟩ (.bool true)).heap[j]? = w.heap[j]? := fun j hj => Below.heap_setCell _ _ _ _ hj
  refine ⟨⟨_, by rw [hcell, Array.getElem?_eq_getElem hks]⟩, blk_free h4 k, g4, lb, lc, nb, nc, wb', wc', g1, g2, g3, g4, fun j hj => by simpa [World.setCell] using g5 j hj, g6, by rw [ho a hane, g7]; simp, own_move' g8 (fun k' hk' => ho k' (fun e => hl (by
    have : lb = k' := by simpa [Value.ownBlock] using hk'
    rw [this, e]))), own_move' g9 (fun k' hk' => ho k' (fun e => hnb (by
    have : nb = k' := by simpa [Value.ownBlock] using hk'
    rw [this, e]))), ?_, ⟨by simpa using g11.some_, by simpa using g11.most, by simpa using g11.lasts, by simpa using g11.now⟩⟩
  simp only [List.length_set]
  refine ⟨by simp [bbools], .inr ⟨wb', wc', _, rfl, Nat.zero_le _, blk_set h4 k _, h5, h6, by simpa using h7, ?_⟩⟩
  rw [Nat.mul_one, Array.toList_setIfInBounds, List.take_set, h8]
  simp [bbools]
set_option maxHeartbeats 4000000 in
theorem ref_Write {w : World} {S : Nat → Prop} {a : Nat} {R : Rk} (h : RkAt w S a R) (i : Int) (A : Option Addr) (n c : Nat) (b : List UInt8) (hn : b.length = n) (hm : n ≤ 140737488355328) (hr : Rd w A (bcells b)) (hA : ∀ ad, A = some ad → ¬ S ad.block) :
    Calls Try.prog 60 #[.pointer (some ⟨a, 0, none⟩), .int .i64 i, .slice A n c] w fun e w' => e = .returned (.bool (R.there i && decide (n = 64))) ∧ RkAt w' S a (R.write i b) ∧ Keeps S w w' := by
  have H := Lib.hid h
  have HN := Lib.hid hn
  have HA := Lib.hid hA
  have HR := Lib.hid hr
  have hok := h.okR
  by_cases hi : R.there i = true
  · have hin := (R.there_iff i).1 hi
    obtain ⟨k, rfl⟩ := Int.eq_ofNat_of_zero_le hin.1
    have hin2 : ¬ ((R.wait.length : Int) ≤ (k : Int)) := by omega
    by_cases h64 : n = 64
    · subst h64
      by_cases hmay : R.may = true
      · have hwr : R.write (k : Int) b = R.deed.put k b := by unfold Rk.write; rw [if_pos ⟨hi, hn⟩, if_pos hmay]
        rw [hwr]
        have Hi := Lib.hid hi
        clear h hr hn hA hwr hi
        go_enter Try.func60, Try.ntmps60
        go_wp2_with (fail)
        refine (ref_Len H.out).mono ?_
        rintro e w1 ⟨rfl, rfl⟩
        go_wp2_with (fail)
        refine (ref_deed H.out).mono ?_
        rintro e w1 ⟨rfl, hd, hk, hs, hb⟩
        have HD := Lib.hid hd
        have HKp : Hid (Keeps S w w1) := hk.mono (fun j hj => by rw [hj]; exact H.out.mem)
        have hRd1 : Hid (Rd w1 A (bcells b)) := fun hne => by
          obtain ⟨ad, h1, h2⟩ := HR.out hne
          refine ⟨ad, h1, fun j v hj => ?_⟩
          rw [← h2 j v hj]
          refine World.cell?_of_block (hb _ ?_)
          rw [add_block]
          intro e
          exact HA.out ad h1 (by rw [e]; exact H.out.mem)
        have hdw : R.deed.wait = R.wait := by unfold Rk.deed; split <;> rfl
        have hdn : R.deed.now = R.now := by unfold Rk.deed; split <;> rfl
        obtain ⟨nb, nc, wb, wc, c1, c2⟩ : ∃ nb nc wb wc, w1.cell? ⟨a, 1, none⟩ = some (.slice (some ⟨nb, 0, none⟩) R.now.length nc) ∧ w1.cell? ⟨a, 2, none⟩ = some (.slice (some ⟨wb, 0, none⟩) R.wait.length wc) := by
          obtain ⟨lb, lc, nb, nc, wb, wc, g1, g2, g3, g4, g5, g6, g7, g8, g9, g10, g11⟩ := hd
          rw [hdw, hdn] at g7
          exact ⟨nb, nc, wb, wc, by simpa using blk_cell g7 1, by simpa using blk_cell g7 2⟩
        have hnow := hok.now
        have hmost := hok.most
        obtain ⟨cur, k1, k2, k3, k4⟩ := hd.putRow (by rw [hdn]; exact c1) b (k : Int) (by rw [hdn, HN.out]; simp; omega)
        rw [hdn] at k3
        have hcp := copy_run (P := Try.prog) w1 66 66 3 5 Try.underlying66 (by kernel_rfl) nb (k * 64) (R.now.length - k * 64) (nc - k * 64) A 64 c cur 5 (bcells b) k1 (by rw [bcells_length, HN.out]; exact (Nat.min_eq_left (by omega)).symm) hRd1.out (by rw [bcells_length, HN.out]; omega) (bcells_one b)
        have hcl : (bcells b).length = 64 := by rw [bcells_length, HN.out]
        rw [hcl] at hcp k4
        have hb0 : ∀ cs : Array Value, ∀ j, j ≠ nb → (w1.setRow nb cs).heap[j]? = w1.heap[j]? := fun cs j hj => setRow_other w1 nb j _ hj
        have hane : a ≠ nb := fun e => by
          obtain ⟨lb, lc, nb', nc', wb', wc', g1, g2, g3, g4, g5, g6, g7, g8, g9, g10, g11⟩ := hd
          rw [e, k1] at g7
          simp at g7
        have c2' : ∀ cs : Array Value, (w1.setRow nb cs).cell? ⟨a, 2, none⟩ = some (.slice (some ⟨wb, 0, none⟩) R.wait.length wc) := fun cs => by
          rw [← c2]
          exact World.cell?_of_block (hb0 cs a hane)
        have hksr : ∀ cs : Array Value, Keeps S w1 (w1.setRow nb cs) := fun cs => ⟨rfl, rfl, rfl, by simp [World.setRow], fun j _ hj => hb0 cs j (fun e => hj (by rw [e]; exact k2))⟩
        simp only [Int.toNat_natCast] at k4
        obtain ⟨W2, hW2⟩ : ∃ W2, W2 = w1.setRow nb (cur.toList.take (k * 64) ++ bcells b ++ cur.toList.drop (k * 64 + 64)).toArray := ⟨_, rfl⟩
        have c2'' := c2' (cur.toList.take (k * 64) ++ bcells b ++ cur.toList.drop (k * 64 + 64)).toArray
        have hks2 := hksr (cur.toList.take (k * 64) ++ bcells b ++ cur.toList.drop (k * 64 + 64)).toArray
        rw [← hW2] at hcp k4 c2'' hks2
        obtain ⟨⟨v, m1⟩, m2, m3, m4⟩ := k4.setFlag (wb := wb) (wc := wc) (by rw [c2'']; simp [hdw]) k (by simp [hdw]; omega)
        have hsl := slice_from (P := Try.prog) 66 5 .i64 Try.underlying66 infoByte (some ⟨nb, 0, none⟩) R.now.length nc (k * 64) (by omega)
        have hcap : k * 64 < nc := by
          obtain ⟨lb, lc, nb', nc', wb', wc', g1, g2, g3, g4, g5, g6, g7, g8, g9, g10, g11⟩ := hd
          have h := own_cap g9
          have c1' := blk_cell g7 1
          simp at c1'
          rw [c1'] at c1
          simp at c1
          rw [hdn] at h
          omega
        have hne : (if nc = k * 64 then some (⟨nb, 0, none⟩ : Addr) else (some (⟨nb, 0, none⟩ : Addr)).map (·.add (k * 64 * 1))) = some ⟨nb, k * 64, none⟩ := by
          rw [if_neg (by omega), Nat.mul_one]
          simp [add_at]
        rw [hne, show ((k * 64 : Nat) : Int) = (k : Int) * 64 by omega] at hsl
        have m4 := Lib.hid m4
        have hks3 := Lib.hid hks2
        have hkl : (k : Int) < (R.wait.length : Int) := by omega
        have hwl : (R.wait.length : Int) ≤ 160 := by omega
        have hnl : (R.now.length : Int) ≤ 10240 := by omega
        have hkn : (k : Int) * 64 ≤ (R.now.length : Int) := by omega
        clear hnow k1 k2 k3 k4 hW2 hksr c2' hb0 hane hne hd hk hs hb hcl hRd1 hdw hdn hks2
        rw [hmay]
        go_wp2
        go_ret
        refine ⟨by rw [Hi.out]; rfl, m4.out, ?_⟩
        have hk2 : Keeps S w W2 := HKp.out.trans hks3.out (fun j hj => .inl hj)
        exact hk2.setCell (p := ⟨wb, k, none⟩) (.inl m3) _
      · have hf : R.may = false := by simpa using hmay
        have hwr : R.write (k : Int) b = R := by unfold Rk.write; rw [if_pos ⟨hi, hn⟩, if_neg hmay]
        have hde : R.deed = R := by unfold Rk.deed; unfold Rk.may at hf; rw [if_pos (by simpa using hf)]
        rw [hwr]
        have Hi := Lib.hid hi
        clear h hr hn hA hwr hi
        go_enter Try.func60, Try.ntmps60
        go_wp2_with (fail)
        refine (ref_Len H.out).mono ?_
        rintro e w1 ⟨rfl, rfl⟩
        go_wp2_with (fail)
        refine (ref_deed H.out).mono ?_
        rintro e w1 ⟨rfl, hd, hk, hs, hb⟩
        rw [hde] at hd
        have hd := Lib.hid hd
        have hk := Lib.hid hk
        have hb := Lib.hid hb
        rw [hf]
        go_wp2
        go_ret
        exact ⟨by rw [Hi.out]; rfl, hd.out, hk.out.mono (fun j hj => by rw [hj]; exact H.out.mem)⟩
    · have hwr : R.write (k : Int) b = R := by unfold Rk.write; rw [if_neg]; rintro ⟨_, h⟩; omega
      have hd : ((n : Int) != 64) = true := by simp; omega
      rw [hwr]
      clear h hr hn hA hwr
      go_enter Try.func60, Try.ntmps60
      go_wp2_with (fail)
      refine (ref_Len H.out).mono ?_
      rintro e w1 ⟨rfl, rfl⟩
      go_wp2
      go_ret
      exact ⟨by simp [h64], H.out, Keeps.refl _ _⟩
  · have hi' : R.there i = false := by simpa using hi
    have hwr : R.write i b = R := by unfold Rk.write; rw [if_neg]; rintro ⟨h, _⟩; exact hi h
    rw [hwr, hi']
    clear h hr hn hA hwr
    by_cases h0 : i < 0
    · go_enter Try.func60, Try.ntmps60
      go_wp2
      go_ret
      exact ⟨rfl, H.out, Keeps.refl _ _⟩
    · have h1 : (R.wait.length : Int) ≤ i := by
        unfold Rk.there at hi
        simp at hi
        omega
      go_enter Try.func60, Try.ntmps60
      go_wp2_with (fail)
      refine (ref_Len H.out).mono ?_
      rintro e w1 ⟨rfl, rfl⟩
      go_wp2
      go_ret
      exact ⟨rfl, H.out, Keeps.refl _ _⟩
end Go.Proofs.Ytdbhhnphpjdmbaa
