/- Contracts of the disk: Len, there, sector, Read, Of, New, Write. -/
import Derived.Test.YtdbhhnphpjdmbaaMapw
import Derived.Deep.RegionHeld3
namespace Go.Proofs.Ytdbhhnphpjdmbaa
open Go.RowKit
open Go.ChangeMaps (setBlock)
open Go.MapKept
set_option maxRecDepth 100000
set_option linter.unusedVariables false
set_option linter.unusedSimpArgs false
theorem len_div (D : Dk) : (D.img.length : Int) / 64 = (D.len : Int) := by unfold Dk.len; omega
theorem disk_Len {w : World} {S : Nat → Prop} {a : Nat} {D : Dk} (h : DkAt w S a D) : Calls Try.prog 70 #[.pointer (some ⟨a, 0, none⟩)] w fun e w' => e = .returned (.int .i64 (D.len : Int)) ∧ w = w' := by
  obtain ⟨lb, c, mb, es, clock, ha, hl, hm, hlt, h1, h2, h3, h4, h5, h6, h7⟩ := h
  have c0 := blk_cell h1 0
  simp at c0
  have hmost := h7.most
  have hd := Lib.hid (len_div D)
  generalize hn : D.img.length = n at *
  have HA := Lib.hid h1
  clear h1 h2 h3 h4 h5 h6 h7 hn hlt
  go_enter Try.func70, Try.ntmps70
  go_wp2
  go_ret
  exact ⟨by rw [← hd.out]; rfl, rfl⟩
theorem disk_there {w : World} {S : Nat → Prop} {a : Nat} {D : Dk} (h : DkAt w S a D) (i : Int) : Calls Try.prog 67 #[.pointer (some ⟨a, 0, none⟩), .int .i64 i] w fun e w' => e = .returned (.bool (D.there i)) ∧ w = w' := by
  have H := Lib.hid h
  clear h
  unfold Dk.there
  by_cases h0 : 0 ≤ i
  · go_enter Try.func67, Try.ntmps67
    go_wp2_with (fail)
    refine (disk_Len H.out).mono ?_
    rintro e w1 ⟨rfl, rfl⟩
    go_wp2
    go_ret
    exact ⟨by simp [h0], rfl⟩
  · go_enter Try.func67, Try.ntmps67
    go_wp2
    go_ret
    exact ⟨by simp; omega, rfl⟩
theorem make_zeros (W : World) (n : Nat) (hn : n ≤ 16777216) : ∃ w', (Instr.makeSlice 66 (.int .i64 (n : Int)) (.int .i64 (n : Int))).run Try.prog W = .ok (.slice (some ⟨W.heap.size, 0, none⟩) n n) w' ∧ w'.ownsRow W.heap.size 5 1 (.slice (some ⟨W.heap.size, 0, none⟩) n n) n (bcells (List.replicate n 0)) ∧ W.grownBy w' none := by
  obtain ⟨i, hi', hz0, hz1, hz2⟩ := info_parts infoByte
  obtain ⟨w', h1, h2, h3⟩ := run_makeSlice_full (P := Try.prog) (w := W) W.heap.size 66 5 i _ 1 Try.underlying66 hi' hz0 hz1 .i64 .i64 n (by omega) (by rw [hz2]; omega) (by unfold maxLen; omega) (Nat.le_refl _)
  refine ⟨w', h1, ?_, h3⟩
  rw [Nat.mul_one, show (Value.int .u8 0).cells = #[.int .u8 0] from rfl, toList_madeCells_one] at h2
  simpa [bcells] using h2
theorem disk_sector {w : World} {a lb n c : Nat} {m : Value} (h1 : w.heap[a]? = some (.cells #[.slice (some ⟨lb, 0, none⟩) n c, m] 128)) (hc : n ≤ c) (hn : n ≤ 10240) (k : Nat) (hk : (k + 1) * 64 ≤ n) :
    Calls Try.prog 88 #[.pointer (some ⟨a, 0, none⟩), .int .i64 (k : Int)] w fun e w' => e = .returned (.slice (some ⟨lb, k * 64, none⟩) 64 (c - k * 64)) ∧ w = w' := by
  have c0 := blk_cell h1 0
  simp at c0
  have hsl := slice_mid (P := Try.prog) 66 5 .i64 .i64 Try.underlying66 infoByte (some ⟨lb, 0, none⟩) n c (k * 64) (k * 64 + 64) (by omega) (by omega) ((k : Int) * 64) (((k : Int) + 1) * 64) (by omega) (by omega)
  have hne : (if c = k * 64 then some (⟨lb, 0, none⟩ : Addr) else (some (⟨lb, 0, none⟩ : Addr)).map (·.add (k * 64 * 1))) = some ⟨lb, k * 64, none⟩ := by
    rw [if_neg (by omega), Nat.mul_one]
    simp [add_at]
  have hne2 : k * 64 + 64 - k * 64 = 64 := by omega
  rw [hne, hne2] at hsl
  clear hne hne2
  have HA := Lib.hid h1
  clear h1
  go_enter Try.func88, Try.ntmps88
  go_wp2
  go_ret
  exact ⟨rfl, rfl⟩
theorem zero_bytes (W : World) : (zeroValue 66).run Try.prog W = .ok (.slice none 0 0) W := by kernel_rfl
def Dk.row (D : Dk) (i : Int) : List UInt8 := if D.there i then D.get i else []
theorem row_length {D : Dk} (h : D.ok) (i : Int) : (D.row i).length = if D.there i then 64 else 0 := by
  unfold Dk.row
  split
  · rename_i hi
    exact get_length h i hi
  · rfl
theorem sector_rd {w : World} {lb n c : Nat} {D : Dk} (h : w.ownsRow 0 5 1 (.slice (some ⟨lb, 0, none⟩) n c) n (bcells D.img)) (k : Nat) : Rd w (some ⟨lb, k * 64, none⟩) (bcells (sectorOf D.img (k : Int))) := by
  have h1 := rd_take (rd_drop (own_rd h) (k * 64)) 64
  rw [bcells_drop, bcells_take, add_at] at h1
  exact h1
theorem own_cap {w : World} {e : TypeId} {base size n c lb : Nat} {vs : List Value} (h : w.ownsRow base e size (.slice (some ⟨lb, 0, none⟩) n c) n vs) : n ≤ c := by
  rcases h.2 with ⟨h1, _⟩ | ⟨g, cap, cur, h1, _, _, h2, _⟩
  · simp at h1
  · simp at h1
    omega
set_option maxHeartbeats 2000000 in
theorem disk_Read {w : World} {S : Nat → Prop} {a : Nat} {D : Dk} (h : DkAt w S a D) (i : Int) :
    Calls Try.prog 69 #[.pointer (some ⟨a, 0, none⟩), .int .i64 i] w fun e w' => ∃ A c, e = .returned (.tuple #[.slice A (D.row i).length c, .bool (D.there i)]) ∧ w'.ownsRow w.heap.size 5 1 (.slice A (D.row i).length c) (D.row i).length (bcells (D.row i)) ∧ Below w.heap.size w w' := by
  have H := Lib.hid h
  have hok := Lib.hid h.okD
  by_cases hi : D.there i = true
  · have hrow : D.row i = D.get i := by unfold Dk.row; rw [if_pos hi]
    have hlen : (D.get i).length = 64 := get_length h.okD i hi
    rw [hrow, hlen]
    have hrow := Lib.hid hrow
    have hlen := Lib.hid hlen
    obtain ⟨lb, c, mb, es, clock, ha, hl, hm, hlt, h1, h2, h3, h4, h5, h6, h7⟩ := h
    have c1 := blk_cell h1 1
    simp at c1
    have hin := (D.there_iff i).1 hi
    obtain ⟨k, rfl⟩ := Int.eq_ofNat_of_zero_le hin.1
    have hk : (k + 1) * 64 ≤ D.img.length := by
      have := D.len_eq h7
      omega
    rcases ents_find (k : Int) 0 h4 with ⟨g1, g2, g3⟩ | ⟨kk, x, b, g1, g2, ⟨g3, vb, c', g4, g5, g6, g7, g8, g9⟩, g10, g11⟩
    · have hlk := run_lookup_int w 126 3 66 Try.underlying126 Try.underlying3 zero_bytes mb es clock h3 (k : Int) none g2
      simp at hlk
      have hget : D.get (k : Int) = sectorOf D.img (k : Int) := by unfold Dk.get; rw [g1]; rfl
      rw [hget]
      have hlen := Lib.hid (hget ▸ hlen.out)
      have hs := Lib.hid (sector_rd (D := D) h2 k)
      have hsec := Lib.hid (disk_sector h1 (own_cap h2) h7.most k hk)
      clear h1 h2 h3 h4 h5 h6 h7 g1 g2 g3 ha hl hm hlt hget
      go_enter Try.func69, Try.ntmps69
      go_wp2_with (fail)
      refine (disk_there H.out (k : Int)).mono ?_
      rintro e w1 ⟨rfl, rfl⟩
      rw [hi]
      go_wp2_with (fail)
      refine hsec.out.mono ?_
      rintro e w1 ⟨rfl, rfl⟩
      go_wp2_with (fail)
      refine (clone_bytes _ _ 64 _ (sectorOf D.img (k : Int)) hlen.out (by decide) hs.out (by simp)).mono ?_
      rintro e w1 ⟨A1, c1, rfl, hw1, hb1⟩
      have hw1 := Lib.hid hw1
      have hb1 := Lib.hid hb1
      go_wp2
      refine bodyPost_ret (v := .tuple #[.slice A1 64 c1, .bool true]) (by simp [results, Try.results69, go_sem]) rfl ?_
      exact ⟨A1, c1, by rw [hi], hw1.out, hb1.out⟩
    · have hlk := run_lookup_int w 126 3 66 Try.underlying126 Try.underlying3 zero_bytes mb es clock h3 (k : Int) _ g10
      rw [g4] at hlk
      simp at hlk
      have hget : D.get (k : Int) = b := by unfold Dk.get; rw [g1]; rfl
      rw [hget]
      have hlen := Lib.hid (hget ▸ hlen.out)
      have hs := Lib.hid g9
      clear h1 h2 h3 h4 h5 h6 h7 g1 g2 g3 g4 g9 g10 g11 ha hl hm hlt hget
      go_enter Try.func69, Try.ntmps69
      go_wp2_with (fail)
      refine (disk_there H.out (k : Int)).mono ?_
      rintro e w1 ⟨rfl, rfl⟩
      rw [hi]
      go_wp2_with (fail)
      refine (clone_bytes _ _ 64 _ b hlen.out (by decide) hs.out (by simp)).mono ?_
      rintro e w1 ⟨A1, c1, rfl, hw1, hb1⟩
      have hw1 := Lib.hid hw1
      have hb1 := Lib.hid hb1
      go_wp2
      refine bodyPost_ret (v := .tuple #[.slice A1 64 c1, .bool true]) (by simp [results, Try.results69, go_sem]) rfl ?_
      exact ⟨A1, c1, by rw [hi], hw1.out, hb1.out⟩
  · have hi' : D.there i = false := by simpa using hi
    have hrow : D.row i = [] := by unfold Dk.row; rw [if_neg hi]
    rw [hrow, hi']
    clear h hi
    go_enter Try.func69, Try.ntmps69
    go_wp2_with (fail)
    refine (disk_there H.out i).mono ?_
    rintro e w1 ⟨rfl, rfl⟩
    rw [hi']
    go_wp2
    refine bodyPost_ret (v := .tuple #[.slice none 0 0, .bool false]) (by simp [results, Try.results69, go_sem]) rfl ?_
    exact ⟨none, 0, rfl, World.ownsRow_nil _ _ _ _, Below.refl _ _⟩
def zeros (n : Nat) : List UInt8 := List.replicate n 0
theorem dk_new_ok (bs : List UInt8) (h0 : bs.length ≠ 0) (h1 : bs.length % 64 = 0) (h2 : bs.length ≤ 10240) : (Dk.mk bs []).ok :=
  ⟨by show 64 ≤ bs.length; omega, h2, h1, by simp, by simp, by simp⟩
theorem dk_made {w w1 : World} {A : Option Addr} {n c : Nat} {bs : List UInt8} (h0 : n ≠ 0) (hn : bs.length = n) (hok : (Dk.mk bs []).ok) (ho : w1.ownsRow w.heap.size 5 1 (.slice A n c) n (bcells bs)) (hb : Below w.heap.size w w1) :
    DkAt ((w1.alloc (.map #[] 0)).alloc (.cells #[.slice A n c, .map (some w1.heap.size)] 128)) (fun i => w.heap.size ≤ i ∧ i < w1.heap.size + 2) (w1.heap.size + 1) ⟨bs, []⟩ := by
  have hsz := hb.size
  obtain ⟨lb, rfl⟩ : ∃ lb, A = some ⟨lb, 0, none⟩ := by
    rcases ho.2 with ⟨_, h⟩ | ⟨g, cap, cur, h, _⟩
    · exact absurd h h0
    · simp at h
      exact ⟨g, h.1⟩
  have hlt := ho.lt lb rfl
  have hs1 : (w1.alloc (.map #[] 0)).heap.size = w1.heap.size + 1 := World.size_alloc ..
  have hs2 : ((w1.alloc (.map #[] 0)).alloc (.cells #[.slice (some ⟨lb, 0, none⟩) n c, .map (some w1.heap.size)] 128)).heap.size = w1.heap.size + 2 := by rw [World.size_alloc, hs1]
  subst hn
  refine ⟨lb, c, w1.heap.size, #[], 0, ⟨by omega, by omega⟩, ⟨hlt.1, by omega⟩, ⟨hsz, by omega⟩, fun i hi => by rw [hs2]; exact hi.2, ?_, ?_, ?_, trivial, by simp, by simp, hok⟩
  · have h := heap_alloc_new (w1.alloc (.map #[] 0)) (.cells #[.slice (some ⟨lb, 0, none⟩) bs.length c, .map (some w1.heap.size)] 128)
    rw [hs1] at h
    exact h
  · exact own_base ((ho.alloc _).alloc _) (Nat.zero_le _)
  · exact blk_alloc (heap_alloc_new w1 _) _
set_option maxHeartbeats 2000000 in
theorem disk_Of (w : World) (A : Option Addr) (n c : Nat) (bs : List UInt8) (hn : bs.length = n) (h0 : n ≠ 0) (h1 : n % 64 = 0) (h2 : n ≤ 10240) (hr : Rd w A (bcells bs)) :
    Calls Try.prog 66 #[.slice A n c] w fun e w' => ∃ a S, e = .returned (.pointer (some ⟨a, 0, none⟩)) ∧ DkAt w' S a ⟨bs, []⟩ ∧ (∀ i, S i → w.heap.size ≤ i) ∧ Below w.heap.size w w' := by
  have HR := Lib.hid hr
  have HN := Lib.hid hn
  have HOK := Lib.hid (dk_new_ok bs (by omega) (by omega) (by omega))
  have hA : A = none → n = 0 := fun e => by
    subst e
    by_cases hb : bs = []
    · subst hb
      simp at hn
      omega
    · obtain ⟨ad, h, _⟩ := hr (by simpa [bcells] using hb)
      simp at h
  have hA := Lib.hid hA
  have hi0 : ((n : Int) == 0) = false := by simp; omega
  have hi1 : (n : Int) % 64 = 0 := by omega
  have hi2 : decide (10240 < (n : Int)) = false := by simp; omega
  have hmm := @run_makeMap Try.prog
  clear hr hn
  go_enter Try.func66, Try.ntmps66
  go_wp2_with (fail)
  refine (clone_bytes _ _ n _ bs HN.out (by omega) HR.out hA.out).mono ?_
  rintro e w1 ⟨A1, c1, rfl, hw1, hb1⟩
  have hw1 := Lib.hid hw1
  have hb1 := Lib.hid hb1
  go_wp2
  go_ret
  refine ⟨_, _, rfl, dk_made h0 HN.out HOK.out hw1.out hb1.out, fun i hi => hi.1, ?_⟩
  exact (hb1.out.alloc hb1.out.size _).alloc (by have := hb1.out.size; rw [World.size_alloc]; omega) _
theorem disk_Of_none (w : World) (A : Option Addr) (n c : Nat) (h : ¬ (n ≠ 0 ∧ n % 64 = 0 ∧ n ≤ 10240)) (hm : n ≤ 140737488355328) :
    Calls Try.prog 66 #[.slice A n c] w fun e w' => e = .returned (.pointer none) ∧ w = w' := by
  by_cases h0 : n = 0
  · subst h0
    go_enter Try.func66, Try.ntmps66
    go_wp2
    go_ret
    exact ⟨rfl, rfl⟩
  · have hi0 : ((n : Int) == 0) = false := by simp; omega
    by_cases h1 : n % 64 = 0
    · have hi1 : (n : Int) % 64 = 0 := by omega
      have hi2 : decide (10240 < (n : Int)) = true := by simp; omega
      go_enter Try.func66, Try.ntmps66
      go_wp2
      go_ret
      exact ⟨rfl, rfl⟩
    · have hi1 : ((n : Int) % 64 == 0) = false := by simp; omega
      go_enter Try.func66, Try.ntmps66
      go_wp2
      go_ret
      exact ⟨rfl, rfl⟩
set_option maxHeartbeats 2000000 in
theorem disk_New (w : World) (s : Int) (h0 : 1 ≤ s) (h1 : s ≤ 160) :
    Calls Try.prog 31 #[.int .i64 s] w fun e w' => ∃ a S, e = .returned (.pointer (some ⟨a, 0, none⟩)) ∧ DkAt w' S a ⟨zeros (s.toNat * 64), []⟩ ∧ (∀ i, S i → w.heap.size ≤ i) ∧ Below w.heap.size w w' := by
  obtain ⟨k, rfl⟩ := Int.eq_ofNat_of_zero_le (show 0 ≤ s by omega)
  go_enter Try.func31, Try.ntmps31
  obtain ⟨w1, hmk, ho1, hg1⟩ := make_zeros w (k * 64) (by omega)
  have hb1 := Lib.hid (Below.grown (Below.refl w.heap.size w) hg1 (Nat.le_refl _) (fun q hq => by simp at hq))
  have hs1 := hb1.out.size
  have ho1 := Lib.hid ho1
  rw [show ((k * 64 : Nat) : Int) = (k : Int) * 64 by omega] at hmk
  have hlz : Hid ((zeros (k * 64)).length = k * 64) := by simp [Hid, zeros]
  go_wp2_with (fail)
  refine (disk_Of w1 _ (k * 64) (k * 64) (zeros (k * 64)) hlz.out (by omega) (by omega) (by omega) (own_rd ho1.out)).mono ?_
  rintro e w2 ⟨a, S, rfl, hd, hS, hb2⟩
  have hd := Lib.hid hd
  have hb2 := Lib.hid hb2
  have hS := Lib.hid hS
  go_wp2
  go_ret
  exact ⟨a, S, rfl, hd.out, fun i hi => Nat.le_trans hs1 (hS.out i hi), below_more hb1 hb2.out⟩
theorem disk_New_none (w : World) (s : Int) (h : ¬ (1 ≤ s ∧ s ≤ 160)) :
    Calls Try.prog 31 #[.int .i64 s] w fun e w' => e = .returned (.pointer none) ∧ w = w' := by
  by_cases h0 : s < 1
  · go_enter Try.func31, Try.ntmps31
    go_wp2
    go_ret
    exact ⟨rfl, rfl⟩
  · have h1 : s > 160 := by omega
    go_enter Try.func31, Try.ntmps31
    go_wp2
    go_ret
    exact ⟨rfl, rfl⟩
theorem ents_mono {w w' : World} {S S' : Nat → Prop} {lb : Nat} {es : List MapEntry} {ps : List (Int × List UInt8)} (h : EntsAt w S lb es ps) (hs : w.heap.size ≤ w'.heap.size) (hS : ∀ i, S i → S' i) (hb : ∀ i, S i → i ≠ lb → i < w.heap.size → (∀ es c, w.heap[i]? ≠ some (.map es c)) → w'.heap[i]? = w.heap[i]?) : EntsAt w' S' lb es ps :=
  h.mono fun e p he => by
    obtain ⟨k1, vb, c, k2, k3, k4, k5, k6, k7⟩ := he.keep hs hb
    exact ⟨k1, vb, c, k2, k3, hS _ k4, k5, k6, k7⟩
theorem dk_update {w w1 : World} {S : Nat → Prop} {a : Nat} {D : Dk} (h : DkAt w S a D) (i : Int) (hi : D.there i = true) (hb : Below w.heap.size w w1) {A1 : Option Addr} {c1 : Nat} {b : List UInt8} (hb64 : b.length = 64) (ho : w1.ownsRow w.heap.size 5 1 (.slice A1 64 c1) 64 (bcells b)) :
    ∃ w2 S', (∀ mb, w.cell? ⟨a, 1, none⟩ = some (.map (some mb)) → (Instr.mapUpdate 126 (.map (some mb)) (.int .i64 i) (.slice A1 64 c1)).run Try.prog w1 = .ok () w2) ∧ DkAt w2 S' a (D.write i b) ∧ (∀ j, S' j → S j ∨ w.heap.size ≤ j) ∧ Keeps S w w2 ∧ w2.cell? ⟨a, 1, none⟩ = w.cell? ⟨a, 1, none⟩ := by
  have hw : D.write i b = ⟨D.img, waitPut D.wait i b⟩ := by unfold Dk.write; rw [if_pos ⟨hi, hb64⟩]
  have hwo := D.write_ok h.okD i b
  obtain ⟨lb, c, mb, es, clock, ha, hl, hm, hlt, h1, h2, h3, h4, h5, h6, h7⟩ := h
  obtain ⟨vb, rfl⟩ : ∃ vb, A1 = some ⟨vb, 0, none⟩ := by
    rcases ho.2 with ⟨_, h⟩ | ⟨g, cap, cur, h, _⟩
    · simp at h
    · simp at h
      exact ⟨g, h.1⟩
  have hvlt := ho.lt vb rfl
  have hcell := blk_cell h1 1
  simp at hcell
  have hsz := hb.size
  have hmb1 : w1.heap[mb]? = some (.map es clock) := by rw [hb.block _ (hlt _ hm)]; exact h3
  have hane : a ≠ mb := fun e => by rw [e, h3] at h1; simp at h1
  have hlne : lb ≠ mb := fun e => by
    obtain ⟨cells, hc⟩ := own_blk h2 lb rfl
    rw [e, h3] at hc
    simp at hc
  have key : ∀ es' clock', EntsAt w1 (fun j => S j ∨ j = vb) lb es'.toList (waitPut D.wait i b) → (es'.toList.map (·.born)).Nodup → (∀ e ∈ es'.toList, e.born < clock') →
      DkAt (setBlock w1 mb (.map es' clock')) (fun j => S j ∨ j = vb) a (D.write i b) ∧ Keeps S w (setBlock w1 mb (.map es' clock')) ∧ (setBlock w1 mb (.map es' clock')).cell? ⟨a, 1, none⟩ = w.cell? ⟨a, 1, none⟩ := fun es' clock' he hn hbn => by
    have hother : ∀ {j}, j ≠ mb → (setBlock w1 mb (.map es' clock')).heap[j]? = w1.heap[j]? := fun {j} hj => ChangeMaps.heap_setBlock_other hmb1 _ hj
    have hsize : (setBlock w1 mb (.map es' clock')).heap.size = w1.heap.size := by simp [setBlock]
    have ha1 : (setBlock w1 mb (.map es' clock')).heap[a]? = w.heap[a]? := by rw [hother hane, hb.block _ (hlt _ ha)]
    refine ⟨?_, ⟨hb.os, hb.tape, hb.output, by rw [hsize]; exact hsz, fun j hj hS => by rw [hother (fun e => hS (by rw [e]; exact hm)), hb.block _ hj]⟩, World.cell?_of_block ha1⟩
    rw [hw] at hwo ⊢
    refine ⟨lb, c, mb, es', clock', .inl ha, .inl hl, .inl hm, fun j hj => by
      rw [hsize]
      rcases hj with hj | rfl
      · exact Nat.lt_of_lt_of_le (hlt j hj) hsz
      · exact hvlt.2, by rw [ha1]; exact h1, own_move' h2 (fun k hk => by
        have : lb = k := by simpa [Value.ownBlock] using hk
        subst this
        rw [hother hlne, hb.block _ (hlt _ hl)]), ChangeMaps.heap_setBlock_same hmb1 _, ?_, hn, hbn, hwo⟩
    exact ents_mono he (by rw [hsize]; exact Nat.le_refl _) (fun _ h => h) (fun j hj hjl hjs hjm => hother (fun e => hjm es clock (e ▸ hmb1)))
  have hents : EntsAt w1 (fun j => S j ∨ j = vb) lb es.toList D.wait := ents_mono h4 hsz (fun _ h => .inl h) (fun j hj _ _ _ => hb.block _ (hlt j hj))
  have hnew : ∀ x : MapEntry, x.key = .int .i64 i → x.val = .slice (some ⟨vb, 0, none⟩) 64 c1 → EntAt w1 (fun j => S j ∨ j = vb) lb x (i, b) := fun x hx1 hx2 => ⟨hx1, vb, c1, hx2, own_cap ho, .inr rfl, fun e => by have := hlt lb hl; omega, hvlt.2, own_rd ho⟩
  rcases ents_find i 0 hents with ⟨g1, g2, g3⟩ | ⟨kk, x, b0, g1, g2, g3, g10, g11⟩
  · obtain ⟨k1, k2, k3⟩ := key (es.push { key := .int .i64 i, val := .slice (some ⟨vb, 0, none⟩) 64 c1, born := clock }) (clock + 1) (by
      rw [g3, Array.toList_push]
      exact hents.push (hnew _ rfl rfl)) (by
      rw [Array.toList_push, List.map_append, List.nodup_append]
      refine ⟨h5, by simp, fun p hp q hq e => ?_⟩
      simp at hq
      obtain ⟨e', he', rfl⟩ := List.mem_map.1 hp
      have := h6 e' he'
      omega) (fun e he => by
      rw [Array.toList_push] at he
      rcases List.mem_append.1 he with he | he
      · have := h6 e he
        omega
      · simp at he
        subst he
        simp)
    refine ⟨_, _, fun mb' hmb' => ?_, k1, fun j hj => hj.imp id (fun e => by rw [e]; exact hvlt.1), k2, k3⟩
    rw [hcell] at hmb'
    simp at hmb'
    subst hmb'
    exact run_update_new w1 _ _ _ Try.underlying126 Try.underlying3 mb es clock hmb1 i _ g2
  · have hborn : ((es.modify kk fun e => { e with key := .int .i64 i, val := .slice (some ⟨vb, 0, none⟩) 64 c1 }).toList.map (·.born)) = es.toList.map (·.born) := by
      apply List.ext_getElem?
      intro j
      rw [List.getElem?_map, List.getElem?_map, Array.getElem?_toList, Array.getElem?_modify, Array.getElem?_toList]
      by_cases hj : kk = j
      · subst hj
        simp only [if_true, Option.map_map]
        cases es[kk]? <;> rfl
      · simp only [hj, if_false]
    obtain ⟨k1, k2, k3⟩ := key (es.modify kk fun e => { e with key := .int .i64 i, val := .slice (some ⟨vb, 0, none⟩) 64 c1 }) clock (by
      have : (es.modify kk fun e => { e with key := .int .i64 i, val := .slice (some ⟨vb, 0, none⟩) 64 c1 }).toList = es.toList.set kk { x with key := .int .i64 i, val := .slice (some ⟨vb, 0, none⟩) 64 c1 } := by
        apply List.ext_getElem?
        intro j
        rw [Array.getElem?_toList, Array.getElem?_modify, List.getElem?_set, Array.getElem?_toList]
        by_cases hj : kk = j
        · subst hj
          have hx : es[kk]? = some x := by simpa using g2
          have hlt : kk < es.toList.length := by
            have := (Array.getElem?_eq_some_iff.1 hx).1
            simpa using this
          simp only [if_true, hx, hlt, Option.map_some]
        · simp only [hj, if_false]
      rw [this]
      exact g11 b _ (hnew _ rfl rfl)) (by rw [hborn]; exact h5) (fun e he => by
      have h := List.mem_map_of_mem (f := (·.born)) he
      rw [hborn] at h
      obtain ⟨e', h1', h2'⟩ := List.mem_map.1 h
      rw [← h2']
      exact h6 e' h1')
    refine ⟨_, _, fun mb' hmb' => ?_, k1, fun j hj => hj.imp id (fun e => by rw [e]; exact hvlt.1), k2, k3⟩
    rw [hcell] at hmb'
    simp at hmb'
    subst hmb'
    exact run_update_old w1 _ _ _ Try.underlying126 Try.underlying3 mb es clock hmb1 i _ kk x (by simpa using g2) g3.1 _ (by simpa using g10)
set_option maxHeartbeats 2000000 in
theorem disk_Write {w : World} {S : Nat → Prop} {a : Nat} {D : Dk} (h : DkAt w S a D) (i : Int) (A : Option Addr) (n c : Nat) (b : List UInt8) (hn : b.length = n) (hm : n ≤ 140737488355328) (hr : Rd w A (bcells b)) :
    Calls Try.prog 32 #[.pointer (some ⟨a, 0, none⟩), .int .i64 i, .slice A n c] w fun e w' => e = .returned (.bool (D.there i && decide (n = 64))) ∧ ∃ S', DkAt w' S' a (D.write i b) ∧ (∀ j, S' j → S j ∨ w.heap.size ≤ j) ∧ Keeps S w w' := by
  have H := Lib.hid h
  have HR := Lib.hid hr
  have HN := Lib.hid hn
  by_cases hi : D.there i = true
  · by_cases h64 : n = 64
    · subst h64
      obtain ⟨mb, hmb⟩ : ∃ mb, w.cell? ⟨a, 1, none⟩ = some (.map (some mb)) := by
        obtain ⟨lb, c, mb, es, clock, ha, hl, hm, hlt, h1, _⟩ := h
        have c1 := blk_cell h1 1
        exact ⟨mb, by simpa using c1⟩
      have hA : Hid (A = none → 64 = 0) := fun e => by
        subst e
        obtain ⟨ad, h, _⟩ := hr (by intro e; have := congrArg List.length e; simp [bcells, hn] at this)
        simp at h
      clear h hr hn
      go_enter Try.func32, Try.ntmps32
      go_wp2_with (fail)
      refine (disk_there H.out i).mono ?_
      rintro e w1 ⟨rfl, rfl⟩
      rw [hi]
      go_wp2_with (fail)
      go_region_held3 (fun w' => w'.cell? ⟨a, 1, none⟩ = some (.map (some mb))) (first | assumption | go_keep) (first
        | (go_at_call 68; refine (clone_bytes w.drew A 64 c b HN.out (by decide) (Qt.rd ⟨1, rfl⟩ HR.out) hA.out).mono ?_; rintro e w1 ⟨A1, c1, rfl, hw1, hb1⟩; obtain ⟨w2, S', k1, k2, k3, k4, k5⟩ := dk_update (DkAt.below H.out (below_drewN' (Below.refl _ _) 1)) i hi hb1 HN.out hw1; have kk := k1 mb hmb; have k2 := Lib.hid k2; have k3 := Lib.hid k3; have k4 := Lib.hid k4; have hw1 := Lib.hid hw1; have k6 : w1.cell? ⟨a, 1, none⟩ = some (.map (some mb)) := (World.cell?_of_block (hb1.block _ (H.out.lt a H.out.mem))).trans hmb; have k7 := k5.trans hmb; have hb1 := Lib.hid hb1; clear k1 k5))
      go_wp2
      go_ret
      exact ⟨by rw [hi]; rfl, S', k2.out, k3.out, ⟨k4.out.os, k4.out.tape, k4.out.output, k4.out.size, k4.out.block⟩⟩
    · have hw : D.write i b = D := by unfold Dk.write; rw [if_neg]; rintro ⟨_, h⟩; omega
      have hd : ((n : Int) == 64) = false := by simp; omega
      rw [hw]
      clear h hr hn
      go_enter Try.func32, Try.ntmps32
      go_wp2_with (fail)
      refine (disk_there H.out i).mono ?_
      rintro e w1 ⟨rfl, rfl⟩
      rw [hi]
      go_wp2
      go_ret
      exact ⟨by simp [h64], S, H.out, fun j hj => .inl hj, Keeps.refl _ _⟩
  · have hi' : D.there i = false := by simpa using hi
    have hw : D.write i b = D := by unfold Dk.write; rw [if_neg]; rintro ⟨h, _⟩; exact hi h
    rw [hw]
    clear h hr hn hi
    go_enter Try.func32, Try.ntmps32
    go_wp2_with (fail)
    refine (disk_there H.out i).mono ?_
    rintro e w1 ⟨rfl, rfl⟩
    rw [hi']
    go_wp2
    go_ret
    exact ⟨by rw [hi']; rfl, S, H.out, fun j hj => .inl hj, Keeps.refl _ _⟩
end Go.Proofs.Ytdbhhnphpjdmbaa
