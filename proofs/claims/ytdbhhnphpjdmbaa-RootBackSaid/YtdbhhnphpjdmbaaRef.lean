/- The reference's disk: its words, and contracts of New, Of, Len, deed, Read, Write. -/
import Derived.Test.YtdbhhnphpjdmbaaDisk
import Derived.Laws.CopyRow
namespace Go.Proofs.Ytdbhhnphpjdmbaa
open Go.RowKit
set_option maxRecDepth 100000
set_option linter.unusedVariables false
set_option linter.unusedSimpArgs false
theorem infoBool : (Try.prog.info? 4).map (fun i => (i.zero, i.size, i.bytes)) = some (some (.bool false), 1, 1) := by kernel_rfl
def bbools (l : List Bool) : List Value := l.map Value.bool
theorem bbools_length (l : List Bool) : (bbools l).length = l.length := by simp [bbools]
theorem bbools_one (l : List Bool) : ∀ u ∈ bbools l, u.oneCell' = true := by
  intro u hu
  obtain ⟨b, _, rfl⟩ := List.mem_map.1 hu
  rfl
structure Rk where
  lasts : List UInt8
  now : List UInt8
  wait : List Bool
  left : Int
  done : Int
structure Rk.ok (R : Rk) : Prop where
  some_ : 1 ≤ R.wait.length
  most : R.wait.length ≤ 160
  lasts : R.lasts.length = R.wait.length * 64
  now : R.now.length = R.wait.length * 64
def Rk.there (R : Rk) (i : Int) : Bool := decide (0 ≤ i) && decide (i < (R.wait.length : Int))
theorem Rk.there_iff (R : Rk) (i : Int) : R.there i = true ↔ 0 ≤ i ∧ i < (R.wait.length : Int) := by simp [Rk.there]
def Rk.row (R : Rk) (i : Int) : List UInt8 := if R.there i then sectorOf R.now i else []
def Rk.may (R : Rk) : Bool := !decide (R.left = 0)
def Rk.deed (R : Rk) : Rk := if R.left = 0 then R else { R with left := if R.left > 0 then wrap64 (R.left - 1) else R.left, done := wrap64 (R.done + 1) }
def lay (l : List UInt8) (i : Int) (b : List UInt8) : List UInt8 := l.take (i.toNat * 64) ++ b ++ l.drop (i.toNat * 64 + b.length)
def Rk.put (R : Rk) (i : Int) (b : List UInt8) : Rk := { R with now := lay R.now i b, wait := R.wait.set i.toNat true }
def Rk.write (R : Rk) (i : Int) (b : List UInt8) : Rk := if R.there i = true ∧ b.length = 64 then (if R.may then R.deed.put i b else R) else R
/-- a disk of the reference in memory -/
def RkAt (w : World) (S : Nat → Prop) (a : Nat) (R : Rk) : Prop :=
  ∃ lb lc nb nc wb wc, S a ∧ S lb ∧ S nb ∧ S wb ∧ (∀ i, S i → i < w.heap.size) ∧ lb ≠ nb ∧
    w.heap[a]? = some (.cells #[.slice (some ⟨lb, 0, none⟩) R.lasts.length lc, .slice (some ⟨nb, 0, none⟩) R.now.length nc, .slice (some ⟨wb, 0, none⟩) R.wait.length wc, .int .i64 R.left, .int .i64 R.done] 154) ∧
    w.ownsRow 0 5 1 (.slice (some ⟨lb, 0, none⟩) R.lasts.length lc) R.lasts.length (bcells R.lasts) ∧
    w.ownsRow 0 5 1 (.slice (some ⟨nb, 0, none⟩) R.now.length nc) R.now.length (bcells R.now) ∧
    w.ownsRow 0 4 1 (.slice (some ⟨wb, 0, none⟩) R.wait.length wc) R.wait.length (bbools R.wait) ∧ R.ok
theorem RkAt.lt {w : World} {S : Nat → Prop} {a : Nat} {R : Rk} (h : RkAt w S a R) : ∀ i, S i → i < w.heap.size := by
  obtain ⟨lb, lc, nb, nc, wb, wc, h1, h2, h3, h4, h5, _⟩ := h
  exact h5
theorem RkAt.okR {w : World} {S : Nat → Prop} {a : Nat} {R : Rk} (h : RkAt w S a R) : R.ok := by
  obtain ⟨lb, lc, nb, nc, wb, wc, h1, h2, h3, h4, h5, h6, h7, h8, h9, h10, h11⟩ := h
  exact h11
theorem RkAt.mem {w : World} {S : Nat → Prop} {a : Nat} {R : Rk} (h : RkAt w S a R) : S a := by
  obtain ⟨lb, lc, nb, nc, wb, wc, h1, _⟩ := h
  exact h1
theorem RkAt.keep {w w' : World} {S T : Nat → Prop} {a : Nat} {R : Rk} (h : RkAt w S a R) (hk : Keeps T w w') (hd : ∀ i, S i → ¬ T i) : RkAt w' S a R := by
  obtain ⟨lb, lc, nb, nc, wb, wc, h1, h2, h3, h4, h5, h6, h7, h8, h9, h10, h11⟩ := h
  have hb : ∀ i, S i → w'.heap[i]? = w.heap[i]? := fun i hi => hk.block i (h5 i hi) (hd i hi)
  refine ⟨lb, lc, nb, nc, wb, wc, h1, h2, h3, h4, fun i hi => Nat.lt_of_lt_of_le (h5 i hi) hk.size, h6, by rw [hb a h1]; exact h7, own_move' h8 (fun k hkk => ?_), own_move' h9 (fun k hkk => ?_), own_move' h10 (fun k hkk => ?_), h11⟩
  · have : lb = k := by simpa [Value.ownBlock] using hkk
    exact this ▸ hb lb h2
  · have : nb = k := by simpa [Value.ownBlock] using hkk
    exact this ▸ hb nb h3
  · have : wb = k := by simpa [Value.ownBlock] using hkk
    exact this ▸ hb wb h4
theorem RkAt.below {w w' : World} {S : Nat → Prop} {a : Nat} {R : Rk} (h : RkAt w S a R) (hb : Below w.heap.size w w') : RkAt w' S a R :=
  h.keep (T := fun _ => False) (Keeps.of_below hb) (fun _ _ h => h)
theorem ref_Len {w : World} {S : Nat → Prop} {a : Nat} {R : Rk} (h : RkAt w S a R) : Calls Try.prog 84 #[.pointer (some ⟨a, 0, none⟩)] w fun e w' => e = .returned (.int .i64 (R.wait.length : Int)) ∧ w = w' := by
  have hok := h.okR.most
  obtain ⟨lb, lc, nb, nc, wb, wc, h1, h2, h3, h4, h5, h6, h7, h8, h9, h10, h11⟩ := h
  have c2 := blk_cell h7 2
  simp at c2
  clear h1 h2 h3 h4 h5 h6 h7 h8 h9 h10 h11
  generalize R.wait.length = n at *
  go_enter Try.func84, Try.ntmps84
  go_wp2
  go_ret
  exact ⟨rfl, rfl⟩
/-- the numbers of a disk turned -/
theorem RkAt.setNum {w : World} {S : Nat → Prop} {a : Nat} {R : Rk} (h : RkAt w S a R) (o : Nat) (u : Value) (x y : Int) (hc : (#[.slice none 0 0, .slice none 0 0, .slice none 0 0, .int .i64 R.left, .int .i64 R.done] : Array Value).setIfInBounds o u = #[.slice none 0 0, .slice none 0 0, .slice none 0 0, .int .i64 x, .int .i64 y]) (ho : o = 3 ∨ o = 4) : RkAt (w.setCell ⟨a, o, none⟩ u) S a { R with left := x, done := y } := by
  obtain ⟨lb, lc, nb, nc, wb, wc, h1, h2, h3, h4, h5, h6, h7, h8, h9, h10, h11⟩ := h
  have e1 := own_ne h8 h7 (by decide)
  have e2 := own_ne h9 h7 (by decide)
  have e3 := own_ne h10 h7 (by decide)
  have hb : ∀ k, k ≠ a → (w.setCell ⟨a, o, none⟩ u).heap[k]? = w.heap[k]? := fun k hk => Below.heap_setCell _ _ _ _ hk
  refine ⟨lb, lc, nb, nc, wb, wc, h1, h2, h3, h4, fun i hi => by simpa [World.setCell] using h5 i hi, h6, ?_, own_move' h8 (fun k hk => hb k (fun e => e1 (by rw [hk, e]))), own_move' h9 (fun k hk => hb k (fun e => e2 (by rw [hk, e]))), own_move' h10 (fun k hk => hb k (fun e => e3 (by rw [hk, e]))), ⟨h11.some_, h11.most, h11.lasts, h11.now⟩⟩
  rw [blk_set h7 _ _]
  rcases ho with rfl | rfl
  · simp at hc ⊢
    exact hc
  · simp at hc ⊢
    exact hc
set_option maxHeartbeats 1000000 in
theorem ref_deed {w : World} {S : Nat → Prop} {a : Nat} {R : Rk} (h : RkAt w S a R) : Calls Try.prog 85 #[.pointer (some ⟨a, 0, none⟩)] w fun e w' => e = .returned (.bool R.may) ∧ RkAt w' S a R.deed ∧ Keeps (fun i => i = a) w w' ∧ w.heap.size = w'.heap.size ∧ ∀ i, i ≠ a → w'.heap[i]? = w.heap[i]? := by
  have H := Lib.hid h
  obtain ⟨lb, lc, nb, nc, wb, wc, h1, h2, h3, h4, h5, h6, h7, h8, h9, h10, h11⟩ := h
  have c3 := blk_cell h7 3
  have c4 := blk_cell h7 4
  have f3 := blk_free h7 3
  have f4 := blk_free h7 4
  simp at c3 c4
  have hlt := h5 a h1
  clear h1 h2 h3 h4 h5 h6 h7 h8 h9 h10 h11
  obtain ⟨lasts, now, wait, left, done⟩ := R
  unfold Rk.may Rk.deed
  simp only at c3 c4 ⊢
  by_cases hl : left = 0
  · subst hl
    go_enter Try.func85, Try.ntmps85
    go_wp2
    go_ret
    exact ⟨rfl, H.out, Keeps.refl _ _, rfl, fun _ _ => rfl⟩
  · by_cases hp : left > 0
    · have hl' : (left == 0) = false := by simpa using hl
      go_enter Try.func85, Try.ntmps85
      go_wp2
      go_ret
      refine ⟨rfl, ?_, ?_, by simp [World.setCell], fun i hi => by rw [Below.heap_setCell _ _ _ _ hi, Below.heap_setCell _ _ _ _ hi]⟩
      · have k1 := H.out.setNum 3 (.int .i64 (wrap64 (left - 1))) (wrap64 (left - 1)) done (by simp) (.inl rfl)
        exact k1.setNum 4 (.int .i64 (wrap64 (done + 1))) (wrap64 (left - 1)) (wrap64 (done + 1)) (by simp) (.inr rfl)
      · exact ((Keeps.refl (fun i => i = a) w).setCell (p := ⟨a, 3, none⟩) (.inl rfl) _).setCell (p := ⟨a, 4, none⟩) (.inl rfl) _
    · have hl' : (left == 0) = false := by simpa using hl
      go_enter Try.func85, Try.ntmps85
      go_wp2
      go_ret
      refine ⟨rfl, ?_, ?_, by simp [World.setCell], fun i hi => Below.heap_setCell _ _ _ _ hi⟩
      · exact H.out.setNum 4 (.int .i64 (wrap64 (done + 1))) left (wrap64 (done + 1)) (by simp) (.inr rfl)
      · exact (Keeps.refl (fun i => i = a) w).setCell (p := ⟨a, 4, none⟩) (.inl rfl) _
/-- a copy into a row -/
theorem copy_run {P : Program} (w : World) (dT sT ty elem : TypeId) (hu : P.underlying dT = some (.slice elem)) (hs : (P.info? elem).map (·.size) = some 1) (g o dLen dCap : Nat) (A : Option Addr) (sLen sCap : Nat) (cur : Array Value) (t : TypeId) (cs : List Value)
    (hg : w.heap[g]? = some (.cells cur t (0, 0))) (hn : cs.length = Nat.min sLen dLen) (hr : Rd w A cs) (hfit : o + cs.length ≤ cur.size) (h1 : ∀ v ∈ cs, v.oneCell' = true) :
    (Builtin.copy_ #[dT, sT] ty #[.slice (some ⟨g, o, none⟩) dLen dCap, .slice A sLen sCap]).run P w = .ok (goInt cs.length) (w.setRow g (cur.toList.take o ++ cs ++ cur.toList.drop (o + cs.length)).toArray) := by
  by_cases hc : cs = []
  · subst hc
    have h := run_copy_none (P := P) w dT sT ty elem (some ⟨g, o, none⟩) A dLen dCap sLen sCap hu hs (by simpa using hn.symm)
    rw [h]
    simp
    exact (setRow_self w g cur t (0, 0) hg).symm
  · obtain ⟨ad, rfl, h2⟩ := hr hc
    exact run_copy_row P w dT sT ty elem g o dLen dCap ad sLen sCap cur t cs hu hs hg hn h2 hfit h1
set_option maxHeartbeats 2000000 in
theorem ref_Read {w : World} {S : Nat → Prop} {a : Nat} {R : Rk} (h : RkAt w S a R) (i : Int) :
    Calls Try.prog 86 #[.pointer (some ⟨a, 0, none⟩), .int .i64 i] w fun e w' => ∃ A c, e = .returned (.tuple #[.slice A (R.row i).length c, .bool (R.there i)]) ∧ w'.ownsRow w.heap.size 5 1 (.slice A (R.row i).length c) (R.row i).length (bcells (R.row i)) ∧ Below w.heap.size w w' := by
  have H := Lib.hid h
  have hok := h.okR
  by_cases h0 : i < 0
  · have hrow : R.row i = [] := by unfold Rk.row; rw [if_neg]; rw [R.there_iff]; omega
    have hth : R.there i = false := by unfold Rk.there; simp; omega
    rw [hrow, hth]
    clear h
    go_enter Try.func86, Try.ntmps86
    go_wp2
    refine bodyPost_ret (v := .tuple #[.slice none 0 0, .bool false]) (by simp [results, Try.results86, go_sem]) rfl ?_
    exact ⟨none, 0, rfl, World.ownsRow_nil _ _ _ _, Below.refl _ _⟩
  · by_cases h1 : i ≥ (R.wait.length : Int)
    · have hrow : R.row i = [] := by unfold Rk.row; rw [if_neg]; rw [R.there_iff]; omega
      have hth : R.there i = false := by unfold Rk.there; simp; omega
      rw [hrow, hth]
      clear h
      go_enter Try.func86, Try.ntmps86
      go_wp2_with (fail)
      refine (ref_Len H.out).mono ?_
      rintro e w1 ⟨rfl, rfl⟩
      go_wp2
      refine bodyPost_ret (v := .tuple #[.slice none 0 0, .bool false]) (by simp [results, Try.results86, go_sem]) rfl ?_
      exact ⟨none, 0, rfl, World.ownsRow_nil _ _ _ _, Below.refl _ _⟩
    · have hth : R.there i = true := by unfold Rk.there; simp; omega
      have hrow : R.row i = sectorOf R.now i := by unfold Rk.row; rw [if_pos hth]
      obtain ⟨k, rfl⟩ := Int.eq_ofNat_of_zero_le (show 0 ≤ i by omega)
      have hk : (k + 1) * 64 ≤ R.now.length := by rw [hok.now]; omega
      have hlen : (sectorOf R.now (k : Int)).length = 64 := by
        unfold sectorOf
        rw [List.length_take, List.length_drop]
        simp
        omega
      rw [hrow, hlen, hth]
      obtain ⟨lb, lc, nb, nc, wb, wc, g1, g2, g3, g4, g5, g6, g7, g8, g9, g10, g11⟩ := h
      have c1 := blk_cell g7 1
      simp at c1
      have hcap := own_cap g9
      have hmost : R.now.length ≤ 10240 := by rw [hok.now]; have := hok.most; omega
      have hrd : Hid (Rd w (some ⟨nb, k * 64, none⟩) (bcells (sectorOf R.now (k : Int)))) := by
        have h1 := rd_take (rd_drop (own_rd g9) (k * 64)) 64
        rw [bcells_drop, bcells_take, add_at] at h1
        exact h1
      have hsl := slice_mid (P := Try.prog) 66 5 .i64 .i64 Try.underlying66 infoByte (some ⟨nb, 0, none⟩) R.now.length nc (k * 64) (k * 64 + 64) (by omega) (by omega) ((k : Int) * 64) (((k : Int) + 1) * 64) (by omega) (by omega)
      have hne : (if nc = k * 64 then some (⟨nb, 0, none⟩ : Addr) else (some (⟨nb, 0, none⟩ : Addr)).map (·.add (k * 64 * 1))) = some ⟨nb, k * 64, none⟩ := by
        rw [if_neg (by omega), Nat.mul_one]
        simp [add_at]
      have hne2 : k * 64 + 64 - k * 64 = 64 := by omega
      rw [hne, hne2] at hsl
      have hm160 : (k : Int) < 160 := by have := hok.most; omega
      have hlen := Lib.hid hlen
      have hlb : Hid ((bcells (sectorOf R.now (k : Int))).length = 64 * 1) := by show _ = _; rw [bcells_length, hlen.out]
      have hrd2 : Hid (Rd (w.alloc (.cells #[] 5)) (some ⟨nb, k * 64, none⟩) (bcells (sectorOf R.now (k : Int)))) := hrd.out.below ((Below.refl _ _).alloc (Nat.le_refl _) _)
      have h0' := Lib.hid (own_nilrow w 5 1)
      have halt := g5 a g1
      clear g1 g2 g3 g4 g5 g6 g7 g8 g9 g10 g11 hne hne2 hrow hth
      go_enter Try.func86, Try.ntmps86
      go_wp2_with (fail)
      refine (ref_Len H.out).mono ?_
      rintro e w1 ⟨rfl, rfl⟩
      go_wp2_with (first
        | (at_builtin; refine ev_appendR w.heap.size rfl (.tmp 14) (.tmp 24) 66 5 _ 1 1 rfl Try.underlying66 infoByte rfl (by decide) (by decide) _ 0 [] (some ⟨nb, k * 64, none⟩) 64 _ (bcells (sectorOf R.now (k : Int))) rfl rfl hlb.out hrd2.out (bcells_one _) h0'.out (by simp) (by omega) ?_)
        | go_in)
      intro A1 c1 w1 hown1 hg1 _
      have hB1 := Lib.hid (Below.grown (Below.alloc (Below.refl w.heap.size w) (Nat.le_refl _) (.cells #[] 5)) hg1 (by simp) (fun k hk => by
        have : w.heap.size = k := by simpa [Value.ownBlock] using hk
        omega))
      have Ho1 := Lib.hid hown1
      clear hown1 hg1
      go_wp2
      refine bodyPost_ret (v := .tuple #[.slice A1 64 c1, .bool true]) (by simp [results, Try.results86, go_sem]) rfl ?_
      exact ⟨A1, c1, rfl, Ho1.out, hB1.out⟩
end Go.Proofs.Ytdbhhnphpjdmbaa
