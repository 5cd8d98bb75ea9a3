/- The program's disk and the reference's: when the two are alike, and that writing keeps them so. -/
import Derived.Test.YtdbhhnphpjdmbaaRefBest
namespace Go.Proofs.Ytdbhhnphpjdmbaa
open Go.RowKit
set_option maxRecDepth 100000
set_option linter.unusedVariables false
set_option linter.unusedSimpArgs false
structure Match (D : Dk) (R : Rk) : Prop where
  dok : D.ok
  rok : R.ok
  len : R.wait.length = D.len
  lasts : R.lasts = D.img
  now : ∀ k : Nat, k < D.len → sectorOf R.now (k : Int) = D.get (k : Int)
  wait : ∀ k : Nat, k < D.len → R.wait[k]? = some (waitAt D.wait (k : Int)).isSome
theorem sectorOf_lay (l b : List UInt8) (i j n : Nat) (hl : l.length = n * 64) (hb : b.length = 64) (hi : i < n) (hj : j < n) : sectorOf (lay l (i : Int) b) (j : Int) = if j = i then b else sectorOf l (j : Int) := by
  unfold sectorOf lay
  simp only [Int.toNat_natCast]
  apply List.ext_getElem?
  intro q
  rw [List.getElem?_take, List.getElem?_drop]
  by_cases hq : q < 64
  · rw [if_pos hq, hb]
    by_cases hji : j = i
    · subst hji
      rw [if_pos rfl, List.append_assoc, List.getElem?_append_right (by rw [List.length_take]; omega), List.getElem?_append_left (by rw [List.length_take, hb]; omega)]
      congr 1
      rw [List.length_take]
      omega
    · rw [if_neg hji, List.getElem?_take, if_pos hq, List.getElem?_drop]
      by_cases hlt : j < i
      · rw [List.append_assoc, List.getElem?_append_left (by rw [List.length_take]; omega), List.getElem?_take, if_pos (by omega)]
      · rw [List.getElem?_append_right (by rw [List.length_append, List.length_take, hb]; omega), List.getElem?_drop]
        congr 1
        rw [List.length_append, List.length_take, hb]
        omega
  · rw [if_neg hq]
    symm
    apply List.getElem?_eq_none
    split
    · omega
    · rw [List.length_take]
      omega
theorem sectorOf_full (l : List UInt8) (i n : Nat) (hl : l.length = n * 64) (hi : i < n) : (sectorOf l (i : Int)).length = 64 := by
  unfold sectorOf
  rw [List.length_take, List.length_drop]
  simp only [Int.toNat_natCast]
  omega
theorem match_there {D : Dk} {R : Rk} (h : Match D R) (i : Int) : R.there i = D.there i := by
  unfold Rk.there Dk.there
  rw [h.len]
theorem match_row {D : Dk} {R : Rk} (h : Match D R) (i : Int) : R.row i = D.row i := by
  unfold Rk.row Dk.row
  rw [match_there h]
  split
  · rename_i hi
    have h1 := (D.there_iff i).1 hi
    obtain ⟨k, rfl⟩ := Int.eq_ofNat_of_zero_le h1.1
    exact h.now k (by omega)
  · rfl
theorem match_made (n : Nat) (bs : List UInt8) (hb : bs.length = n * 64) (h1 : 1 ≤ n) (h2 : n ≤ 160) (x y : Int) : Match ⟨bs, []⟩ ⟨bs, bs, List.replicate n false, x, y⟩ := by
  have hl : (Dk.mk bs []).len = n := by unfold Dk.len; show bs.length / 64 = n; omega
  refine ⟨dk_new_ok bs (by omega) (by omega) (by omega), ⟨by simpa using h1, by simpa using h2, by simpa using hb, by simpa using hb⟩, by simp [hl], rfl, fun k _ => rfl, fun k hk => ?_⟩
  rw [hl] at hk
  simp [waitAt, hk]
theorem match_write {D : Dk} {R : Rk} (h : Match D R) (i : Int) (b : List UInt8) (hm : R.may = true) : Match (D.write i b) (R.write i b) := by
  unfold Dk.write Rk.write
  rw [match_there h]
  by_cases hc : D.there i = true ∧ b.length = 64
  · rw [if_pos hc, if_pos hc, if_pos hm]
    have hd : R.deed.wait = R.wait ∧ R.deed.now = R.now ∧ R.deed.lasts = R.lasts := by unfold Rk.deed; split <;> exact ⟨rfl, rfl, rfl⟩
    have h1 := (D.there_iff i).1 hc.1
    obtain ⟨k, rfl⟩ := Int.eq_ofNat_of_zero_le h1.1
    have hok := D.write_ok h.dok (k : Int) b
    have hwr : D.write (k : Int) b = ⟨D.img, waitPut D.wait k b⟩ := by unfold Dk.write; rw [if_pos hc]
    rw [hwr] at hok
    have hn : R.now.length = D.len * 64 := by rw [h.rok.now, h.len]
    refine ⟨hok, put_ok h.rok _ _ (by rw [match_there h]; exact hc.1) hc.2, by simp [Rk.put, hd.1, h.len, Dk.len], by simp only [Rk.put, hd.2.2]; exact h.lasts, fun j hj => ?_, fun j hj => ?_⟩
    · have hj' : j < D.len := hj
      simp only [Rk.put, hd.2.1]
      rw [sectorOf_lay _ _ _ _ _ hn hc.2 (by omega) hj']
      unfold Dk.get
      simp only [waitAt_put]
      by_cases hjk : j = k
      · subst hjk
        simp
      · have : ¬ ((j : Int) = (k : Int)) := by omega
        rw [if_neg hjk, if_neg this]
        exact h.now j hj'
    · have hj' : j < D.len := hj
      simp only [Rk.put, hd.1, waitAt_put, Int.toNat_natCast]
      rw [List.getElem?_set]
      by_cases hjk : k = j
      · subst hjk
        rw [if_pos rfl, if_pos (by rw [h.len]; omega)]
        simp
      · have : ¬ ((j : Int) = (k : Int)) := by omega
        rw [if_neg hjk, if_neg this]
        exact h.wait j hj'
  · rw [if_neg hc, if_neg hc]
    exact h
/-- a disk of the program's and one of the reference's, apart from each other -/
structure Two (w : World) (B : Nat) (S : Nat → Prop) (a : Nat) (D : Dk) (T : Nat → Prop) (b : Nat) (R : Rk) : Prop where
  d : DkAt w S a D
  r : RkAt w T b R
  apart : ∀ i, S i → ¬ T i
  dlow : ∀ i, S i → B ≤ i
  rlow : ∀ i, T i → B ≤ i
theorem Two.below {w w' : World} {B : Nat} {S T : Nat → Prop} {a b : Nat} {D : Dk} {R : Rk} (h : Two w B S a D T b R) (hb : Below w.heap.size w w') : Two w' B S a D T b R :=
  ⟨h.d.below hb, h.r.below hb, h.apart, h.dlow, h.rlow⟩
theorem Two.disk {w w' : World} {B : Nat} {S T S' : Nat → Prop} {a b : Nat} {D D' : Dk} {R : Rk} (h : Two w B S a D T b R) (hB : B ≤ w.heap.size) (hd : DkAt w' S' a D') (hS : ∀ j, S' j → S j ∨ w.heap.size ≤ j) (hk : Keeps S w w') : Two w' B S' a D' T b R :=
  ⟨hd, h.r.keep hk (fun i hi hs => h.apart i hs hi), fun i hi ht => by
    rcases hS i hi with hs | hs
    · exact h.apart i hs ht
    · have := h.r.lt i ht
      omega, fun i hi => by
    rcases hS i hi with hs | hs
    · exact h.dlow i hs
    · omega, h.rlow⟩
theorem Two.ref {w w' : World} {B : Nat} {S T : Nat → Prop} {a b : Nat} {D : Dk} {R R' : Rk} (h : Two w B S a D T b R) (hr : RkAt w' T b R') (hk : Keeps T w w') : Two w' B S a D T b R' :=
  ⟨h.d.keep hk h.apart, hr, h.apart, h.dlow, h.rlow⟩
end Go.Proofs.Ytdbhhnphpjdmbaa
