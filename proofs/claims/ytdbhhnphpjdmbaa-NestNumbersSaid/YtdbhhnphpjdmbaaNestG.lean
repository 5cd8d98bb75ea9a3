/- Contracts of the reference's Name, has, Known, runes, and of Same for whole numbers. No condition beyond the ones written. -/
import Derived.Test.YtdbhhnphpjdmbaaGlyphPure
import Derived.Test.YtdbhhnphpjdmbaaRow
import Derived.Test.YtdbhhnphpjdmbaaSum
import Derived.Lib.OthersKept
import Derived.Lib.RuneCount
import Derived.Lib.TrimU
import Derived.Handy
namespace Go.Proofs.Ytdbhhnphpjdmbaa
open Go.RowKit
set_option maxRecDepth 100000
set_option linter.unusedVariables false
set_option linter.unusedSimpArgs false
/-- the characters of a text from a place on -/
def rsFrom (s : ByteArray) : Nat → Nat → List Int
  | 0, _ => []
  | f + 1, p => if p < s.size then ((Utf8.decode s p).1 : Int) :: rsFrom s f (p + (Utf8.decode s p).2) else []
def rsOf (s : ByteArray) : List Int := rsFrom s s.size 0
theorem rsFrom_fuel (s : ByteArray) : ∀ (f g p : Nat), s.size - p ≤ f → s.size - p ≤ g → rsFrom s f p = rsFrom s g p
  | 0, 0, _, _, _ => rfl
  | 0, g + 1, p, h, _ => by
    unfold rsFrom
    rw [if_neg (by omega)]
  | f + 1, 0, p, _, h => by
    conv => lhs; unfold rsFrom
    rw [if_neg (by omega)]
    rfl
  | f + 1, g + 1, p, h1, h2 => by
    unfold rsFrom
    by_cases hp : p < s.size
    · have := Lib.decode_width_pos s p hp
      rw [if_pos hp, if_pos hp, rsFrom_fuel s f g _ (by omega) (by omega)]
    · rw [if_neg hp, if_neg hp]
theorem rsFrom_cons (s : ByteArray) (p : Nat) (hp : p < s.size) : rsFrom s s.size p = ((Utf8.decode s p).1 : Int) :: rsFrom s s.size (p + (Utf8.decode s p).2) := by
  have hw := Lib.decode_width_pos s p hp
  rw [rsFrom_fuel s s.size (s.size + 1) p (by omega) (by omega)]
  conv => lhs; unfold rsFrom
  rw [if_pos hp]
theorem rsFrom_end (s : ByteArray) (p : Nat) (hp : ¬ p < s.size) : rsFrom s s.size p = [] := by
  rw [rsFrom_fuel s s.size 0 p (by omega) (by omega)]
  rfl
theorem decode_nat (s : ByteArray) (p : Nat) : 0 ≤ ((Utf8.decode s p).1 : Int) := Int.natCast_nonneg _
/-- characters as values -/
def rcells (l : List Int) : List Value := l.map (Value.int .i32)
theorem rcells_length (l : List Int) : (rcells l).length = l.length := by simp [rcells]
theorem rcells_append (a b : List Int) : rcells (a ++ b) = rcells a ++ rcells b := by simp [rcells]
theorem rcells_get (l : List Int) (k : Nat) : (rcells l)[k]? = l[k]?.map (Value.int .i32) := by simp [rcells]
theorem theSigns_rs : rsOf ⟨#[43, 45, 42, 47, 37, 38, 124, 94, 60, 61, 33, 46, 44, 64, 36, 35, 63, 58, 59, 91, 93, 126, 194, 171, 194, 187, 194, 169, 194, 174, 194, 164, 194, 161, 206, 187, 207, 128]⟩ = theSigns := by decide
theorem rs_a : rsOf ⟨#[91, 126, 93]⟩ = [91, 126, 93] := by decide
theorem rs_b : rsOf ⟨#[63, 58, 59]⟩ = [63, 58, 59] := by decide
theorem rs_c : rsOf ⟨#[126]⟩ = [126] := by decide
theorem ref_Name (w : World) (r : Int) : Calls Try.prog 49 #[.int .i32 r] w fun e w' => e = .returned (.bool (isName r)) ∧ w = w' := by
  obtain ⟨b, hb⟩ : ∃ b, Hid (isName r = b) := ⟨_, rfl⟩
  rw [hb.out]
  go_enter Try.func49, Try.ntmps49
  go_wp2
  all_goals
    go_ret
    refine ⟨congrArg (fun b => Ending.returned (Value.bool b)) (Eq.trans ?_ hb.out), rfl⟩
    rw [Bool.eq_iff_iff]
    simp [isName]
    omega
theorem ref_has (w : World) (s : ByteArray) (l : List Int) (hl : rsOf s = l) (r : Int) : Calls Try.prog 79 #[.string s, .int .i32 r] w fun e w' => e = .returned (.bool (l.contains r)) ∧ Below w.heap.size w w' := by
  have hl := Lib.hid hl
  obtain ⟨b, hb⟩ : ∃ b, Hid (l.contains r = b) := ⟨_, rfl⟩
  rw [hb.out]
  go_enter Try.func79, Try.ntmps79
  go_wp2
  go_loopw [6] (fun _ wr => ∃ p : Nat, wr = w.iter s p ∧ Hid (b = (rsFrom s s.size p).contains r)) (fun _ wr => s.size - wr.iterPos w.heap.size)
  case atStart => exact ⟨0, rfl, by show _ = _; rw [← hb.out, ← hl.out]; rfl⟩
  case round =>
    obtain ⟨p, rfl, HE⟩ := hrel
    by_cases hp : p < s.size
    · have hn := run_next_any (P := Try.prog) w s p 0 hp
      have hc := Lib.hid (rsFrom_cons s p hp)
      have hw := Lib.decode_width_pos s p hp
      generalize Utf8.decode s p = d at *
      obtain ⟨x, k⟩ := d
      by_cases hx : (x : Int) = r
      · have hbt : Hid (b = true) := by
          show _ = _
          rw [HE.out, hc.out]
          simp [hx]
        have hxb : ((x : Int) == r) = true := by simpa using hx
        clear hx HE
        go_wp2
        go_ret
        exact ⟨by rw [hbt.out]; rfl, (Below.refl _ _).alloc (Nat.le_refl _) _⟩
      · have hbt : Hid (b = (rsFrom s s.size (p + k)).contains r) := by
          show _ = _
          rw [HE.out, hc.out, List.contains_cons]
          have : (r == (x : Int)) = false := by simpa using fun e => hx e.symm
          rw [this, Bool.false_or]
        have hxb : ((x : Int) == r) = false := by simpa using hx
        clear hx HE
        go_wp2
        go_roundw
        case rel => exact ⟨p + k, rfl, hbt⟩
        case measure => simp [World.iterPos_iter]; simp at hw; omega
    · have hn := run_next_end (P := Try.prog) w s p 0 hp
      have hbt : Hid (b = false) := by
        show _ = _
        rw [HE.out, rsFrom_end s p hp]
        rfl
      clear HE
      go_wp2
      go_ret
      exact ⟨by rw [hbt.out]; rfl, (Below.refl _ _).alloc (Nat.le_refl _) _⟩
theorem ref_Known (w : World) (r : Int) : Calls Try.prog 50 #[.int .i32 r] w fun e w' => e = .returned (.bool (isKnown r)) ∧ Below w.heap.size w w' := by
  have hh := Lib.hid (ref_has w _ _ theSigns_rs r)
  obtain ⟨c, hc⟩ : ∃ c, Hid (theSigns.contains r = c) := ⟨_, rfl⟩
  rw [hc.out] at hh
  obtain ⟨b, hb⟩ : ∃ b, Hid (isKnown r = b) := ⟨_, rfl⟩
  rw [hb.out]
  have hk : Hid (isKnown r = ((decide (97 ≤ r) && decide (r ≤ 122)) || ((decide (65 ≤ r) && decide (r ≤ 90)) || c))) := by show _ = _; unfold isKnown; rw [hc.out]
  go_enter Try.func50, Try.ntmps50
  go_wp2_with (first | (go_at_call 79; refine hh.out.mono ?_; rintro e w' ⟨rfl, hq⟩; have hq := Lib.hid hq) | fail)
  all_goals
    try go_wp2
  all_goals
    go_ret
    refine ⟨congrArg (fun b => Ending.returned (Value.bool b)) (Eq.trans ?_ (hk.out.symm.trans hb.out)), ?_⟩
    · rw [Bool.eq_iff_iff]
      cases c <;> (try simp) <;> (try omega)
    · first
        | exact hq.out
        | exact Below.refl _ _
theorem infoRune : (Try.prog.info? 21).map (fun i => (i.zero, i.size, i.bytes)) = some (some (.int .i32 0), 1, 4) := by kernel_rfl
set_option maxHeartbeats 1000000 in
theorem ref_runes (w : World) (s : ByteArray) (hs : s.size ≤ 1000000) : Calls Try.prog 48 #[.string s] w fun e w' => ∃ A c, e = .returned (.slice A (rsOf s).length c) ∧ w'.ownsRow w.heap.size 21 1 (.slice A (rsOf s).length c) (rsOf s).length (rcells (rsOf s)) ∧ Below w.heap.size w w' := by
  obtain ⟨rs, hrs⟩ : ∃ rs, Hid (rsOf s = rs) := ⟨_, rfl⟩
  rw [hrs.out]
  go_enter Try.func48, Try.ntmps48
  go_wp2
  obtain ⟨B, hB⟩ : ∃ B, B = w.heap.size := ⟨_, rfl⟩
  obtain ⟨W1, hW1⟩ : ∃ W1, W1 = w.iter s 0 := ⟨_, rfl⟩
  have h1 : Hid (W1.heap[B]? = some (.stringIter s 0)) := by show _ = _; rw [hW1, hB]; exact heap_alloc_new w _
  have h2 : Hid (Below B w W1) := by show Below _ _ _; rw [hW1, hB]; exact (Below.refl _ _).alloc (Nat.le_refl _) _
  have hBs : Hid (B ≤ w.heap.size) := by show _ ≤ _; omega
  have hBe := Lib.hid hB
  rw [← hW1, ← hB]
  clear hW1 hB
  go_loopw [3, 5] (fun v _ wr => ∃ (p : Nat) (acc : List Int), acc.length ≤ p ∧ Hid (wr.heap[B]? = some (.stringIter s p)) ∧ Hid (wr.ownsRow B 21 1 v acc.length (rcells acc)) ∧ Hid (v.ownBlock ≠ some B) ∧ Hid (rs = acc ++ rsFrom s s.size p) ∧ Hid (Below B w wr)) (fun _ _ wr => s.size - wr.iterPos B)
  case atStart => exact ⟨0, [], Nat.le_refl _, h1.out, World.ownsRow_nil _ _ _ _, by show _ ≠ _; simp [Value.ownBlock], by show _ = _; rw [← hrs.out]; rfl, h2.out⟩
  case round =>
    obtain ⟨p, acc, hap, HI, HO, HN, HE, HB⟩ := hrel
    obtain ⟨A3, c3, rfl⟩ := own_form HO.out
    have hip : wr.iterPos B = p := by unfold World.iterPos; rw [HI.out]
    have hip := Lib.hid hip
    by_cases hp : p < s.size
    · have hn := Lib.run_next_any_at (P := Try.prog) wr B s p 0 HI.out hp
      have hc := Lib.hid (rsFrom_cons s p hp)
      have hw := Lib.decode_width_pos s p hp
      generalize Utf8.decode s p = d at *
      obtain ⟨x, k⟩ := d
      obtain ⟨n, hnn⟩ : ∃ n, n = acc.length := ⟨_, rfl⟩
      rw [← hnn] at hap HO HN ⊢
      obtain ⟨W2, hW2⟩ : ∃ W2, W2 = wr.iterAt B s (p + k) := ⟨_, rfl⟩
      have I2 : Hid (W2.heap[B]? = some (.stringIter s (p + k))) := by show _ = _; rw [hW2]; exact Lib.iterAt_heap wr B s p (p + k) HI.out
      have B2 : Hid (Below B w W2) := by show Below _ _ _; rw [hW2]; exact Lib.below_iterAt HB.out (Nat.le_refl _) s _
      have O2 : Hid (W2.ownsRow B 21 1 (.slice A3 n c3) n (rcells acc)) := own_move' HO.out (fun j hj => by rw [hW2]; exact Lib.iterAt_other wr B j s _ (fun e => HN.out (by rw [hj, e])))
      have Hb2 : B ≤ W2.heap.size := by have := blk_lt I2.out; omega
      have Hnn := Lib.hid hnn
      rw [← hW2] at hn
      clear hnn hW2
      go_wp2_with (first
        | (at_builtin; refine ev_append1 B rfl (.tmp 11) (.tmp 13) 24 21 _ 1 4 rfl Try.underlying24 infoRune rfl (by decide) (by decide) (.slice A3 n c3) n (rcells acc) [.int .i32 (x : Int)] rfl rfl rfl (by simp [Value.oneCell']) O2.out Hb2 (by omega) ?_)
        | go_in)
      intro g1 c1 w3 ho hg hat
      have hne : some B ≠ (Value.slice A3 n c3).ownBlock := fun e => HN.out e.symm
      have I3 : Hid (w3.heap[B]? = some (.stringIter s (p + k))) := (hg.block B (blk_lt I2.out) hne).trans I2.out
      have B3 : Hid (Below B w w3) := B2.out.grown hg Hb2 (fun j hj => (O2.out.lt j hj).1)
      have N3 : Hid ((Value.slice (some ⟨g1, 0, none⟩) (n + 1) c1).ownBlock ≠ some B) := by
        show _ ≠ _
        intro e
        have e : g1 = B := by simpa [Value.ownBlock] using e
        rcases hat with h | h
        · exact hne (by rw [h, e])
        · have := blk_lt I2.out
          omega
      have hlen : (acc ++ [(x : Int)]).length = n + 1 := by rw [List.length_append, ← Hnn.out]; rfl
      have O3 : Hid (w3.ownsRow B 21 1 (.slice (some ⟨g1, 0, none⟩) (n + 1) c1) (acc ++ [(x : Int)]).length (rcells (acc ++ [(x : Int)]))) := by
        show World.ownsRow _ _ _ _ _ _ _
        rw [hlen, rcells_append]
        exact ho
      have E3 : Hid (rs = (acc ++ [(x : Int)]) ++ rsFrom s s.size (p + k)) := by
        show _ = _
        rw [HE.out, hc.out, List.append_assoc]
        rfl
      have hlen := Lib.hid hlen
      clear ho hg hat hne hn
      go_wp2
      go_roundw
      case rel => exact ⟨p + k, acc ++ [(x : Int)], by rw [hlen.out]; omega, I3, O3, N3, E3, B3⟩
      case measure =>
        have e : w3.iterPos B = p + k := by unfold World.iterPos; rw [I3.out]
        rw [e, hip.out]
        omega
    · have hn := Lib.run_next_end_at (P := Try.prog) wr B s p 0 HI.out hp
      have E3 : Hid (rs = acc) := by
        show _ = _
        rw [HE.out, rsFrom_end s p hp, List.append_nil]
      go_wp2
      go_ret
      rw [E3.out]
      exact ⟨A3, c3, rfl, by rw [← hBe.out]; exact HO.out, by rw [← hBe.out]; exact HB.out⟩
theorem rsFrom_length (s : ByteArray) : ∀ (f p : Nat), (rsFrom s f p).length ≤ f
  | 0, _ => Nat.le_refl _
  | f + 1, p => by
    unfold rsFrom
    split
    · have := rsFrom_length s f (p + (Utf8.decode s p).2)
      simp only [List.length_cons]
      omega
    · simp
theorem rsFrom_range (s : ByteArray) : ∀ (f p : Nat), ∀ r ∈ rsFrom s f p, 0 ≤ r ∧ r ≤ 1114111
  | 0, _ => fun r h => by cases h
  | f + 1, p => fun r h => by
    unfold rsFrom at h
    split at h
    · rcases List.mem_cons.1 h with rfl | h
      · have := Lib.rune_le s p
        exact ⟨by omega, by omega⟩
      · exact rsFrom_range s f _ r h
    · cases h
end Go.Proofs.Ytdbhhnphpjdmbaa
