/- The law NestNumbers: its walk. -/
import Derived.Test.YtdbhhnphpjdmbaaNestJ
import Derived.Laws.OwnMore
namespace Go.Proofs.Ytdbhhnphpjdmbaa
open Go.RowKit
set_option maxRecDepth 100000
set_option linter.unusedVariables false
set_option linter.unusedSimpArgs false
/-- a guarded operation whose guard is met goes on as if it had none -/
theorem ev_guarded {P : Program} {ops : Array Oper} {Q : Exit → Act → World → Prop} {a : Act} {w : World} {rest : List Oper} {o : Oper} (hw : Region.wanted o (yielded ops a.tmps) = true) (h : wpList P ops Q ({ o with guard := none } :: rest) a w) : wpList P ops Q (o :: rest) a w := by
  unfold wpList at h ⊢
  rw [if_pos hw]
  rw [if_pos (by simp [Region.wanted])] at h
  exact h
/-- row, then same -/
theorem row_same (w : World) (A : Option Addr) (n c : Nat) (xs : List Int) (hl : xs.length = n) (hn : n ≤ 140737488355328) (hr : Rd w A (icells xs)) :
    Calls Try.prog 16 #[.slice A n c] w fun e w' => ∃ v, e = .returned v ∧ Below w.heap.size w w' ∧ Calls Try.prog 15 #[v] w' fun e w2 => e = .returned (.bool true) ∧ Below w.heap.size w w2 := by
  refine (law8_row w A n c xs hl hn hr).mono ?_
  rintro e w' ⟨A', c', l, hl5, rfl, ho, hb⟩
  exact ⟨_, rfl, hb, (law8_same w' A' l.length c' l rfl (by omega) (own_rd ho)).mono fun e w2 ⟨he, h2⟩ => ⟨he, hb.trans (h2.mono hb.size)⟩⟩
set_option maxHeartbeats 4000000 in
theorem NestNumbers_walk (W : World) : Calls Try.prog 4 #[] W fun e w' => e = .returned (.bool true) ∧ Below W.heap.size W w' := by
  obtain ⟨B, hB⟩ : ∃ B, Hid (B = W.heap.size) := ⟨_, rfl⟩
  have HB0 : Hid (Below B W W) := by show Below _ _ _; exact Below.refl _ _
  go_enter Try.func4, Try.ntmps4
  go_wp2
  go_loopw [1, 2, 3] (fun nv _ _ wr => ∃ j : Nat, j ≤ 117649 ∧ nv = .int .i64 j ∧ Hid (Below B W wr)) (fun nv _ _ _ => 117649 - (intOf nv).toNat)
  case atStart => exact ⟨0, by decide, rfl, HB0.out⟩
  case round =>
    obtain ⟨j, hj, rfl, HB⟩ := hrel
    by_cases hlt : j < 117649
    · have hlt2 : (j : Int) < 117649 := by omega
      go_upto_region 6 with fail
      go_loopw [2, 3] (fun lv kv wr => ∃ (m k : Nat) (xs : List Int), m + k ≤ j ∧ kv = .int .i64 k ∧ xs.length = m ∧ Hid (wr.ownsRow B 3 1 lv m (icells xs)) ∧ Hid (Below B W wr)) (fun _ kv _ => (intOf kv).toNat)
      case atStart => exact ⟨0, j, [], by omega, rfl, rfl, World.ownsRow_nil _ _ _ _, HB.out⟩
      case round =>
        obtain ⟨m, k, xs, hmk, rfl, hxl, HO, HB2⟩ := hrel
        obtain ⟨A3, c3, rfl⟩ := own_form HO.out
        have hxl := Lib.hid hxl
        have hBs : B ≤ wr.heap.size := by have h1 := HB2.out.size; have h2 := hB.out; omega
        by_cases hk : 0 < k
        · have hk2 : 0 < (k : Int) := by omega
          go_wp2_with (first
            | (at_builtin; refine ev_append1 B rfl (.tmp 18) (.tmp 21) 38 3 _ 1 8 rfl Try.underlying38 infoInt rfl (by decide) (by decide) (.slice A3 m c3) m (icells xs) [.int .i64 _] rfl rfl rfl (by simp [Value.oneCell']) HO.out hBs (by omega) ?_)
            | go_in)
          intro g1 c1 w3 ho hg hat
          have HB3 : Hid (Below B W w3) := HB2.out.grown hg hBs (fun q hq => (HO.out.lt q hq).1)
          have HO3 : Hid (w3.ownsRow B 3 1 (.slice (some ⟨g1, 0, none⟩) (m + 1) c1) (m + 1) (icells (xs ++ [(k : Int) % 7]))) := by
            show World.ownsRow _ _ _ _ _ _ _
            rw [icells_append]
            exact ho
          clear ho hg hat
          go_wp2
          go_roundw
          case rel => exact ⟨m + 1, k / 7, xs ++ [(k : Int) % 7], by omega, by go_num, by rw [List.length_append, hxl.out]; rfl, HO3, HB3⟩
          case measure => simp [intOf]; omega
        · have hk2 : ¬ 0 < (k : Int) := by omega
          have hrs := Lib.hid (row_same wr A3 m c3 xs hxl.out (by omega) (own_rd HO.out))
          go_wp2_with (fail)
          refine hrs.out.mono ?_
          rintro e w2 ⟨v, rfl, hb2, hsm⟩
          have hsm := Lib.hid hsm
          go_wp2_with (fail)
          refine hsm.out.mono ?_
          rintro e w3 ⟨rfl, hb3⟩
          have HB3 : Hid (Below B W w3) := HB2.out.trans (hb3.mono hBs)
          clear hb2 hb3
          go_wp2
          go_roundw
          case rel => exact ⟨j + 1, by omega, by go_num, HB3⟩
          case measure => simp [intOf]; omega
    · have hlt2 : ¬ (j : Int) < 117649 := by omega
      obtain ⟨W5, hW5⟩ : ∃ W5, W5 = wr.alloc (.cells #[.int .i64 15, .int .i64 16, .int .i64 17] 3) := ⟨_, rfl⟩
      have hBs : B ≤ wr.heap.size := by have h1 := HB.out.size; have h2 := hB.out; omega
      have HB5 : Hid (Below B W W5) := by show Below _ _ _; rw [hW5]; exact HB.out.alloc hBs _
      have hrf : Rd W5 (some ⟨wr.heap.size, 0, none⟩) (icells [15, 16, 17]) := by rw [hW5]; exact rd_fresh wr [15, 16, 17] _ rfl
      obtain ⟨C, hC⟩ : ∃ C, C = W5.heap.size := ⟨_, rfl⟩
      have HR5 : Hid (∀ W', Below C W5 W' → Rd W' (some ⟨wr.heap.size, 0, none⟩) (icells [15, 16, 17])) := fun W' h => hrf.below (by rw [← hC]; exact h)
      have hCe := Lib.hid hC
      have HBC : Hid (B ≤ C) := by show _ ≤ _; rw [hC]; have h1 := HB5.out.size; have h2 := hB.out; omega
      have HC0 : Hid (Below C W5 W5) := by show Below _ _ _; exact Below.refl _ _
      obtain ⟨bq, hbq⟩ : ∃ bq, bq = wr.heap.size := ⟨_, rfl⟩
      clear hrf hC
      go_upto_region 12 with fail
      rw [← hW5]
      rw [← hbq] at HR5 ⊢
      clear hW5 hbq
      go_loopw [5, 6, 7, 8, 29] (fun _ _ _ _ tv wr => ∃ t : Nat, t ≤ 3 ∧ tv = .int .i64 t ∧ Hid (Below C W5 wr)) (fun _ _ _ _ tv _ => 3 - (intOf tv).toNat)
      case atStart => exact ⟨0, by decide, rfl, HC0.out⟩
      case round =>
        obtain ⟨t, ht, rfl, HB⟩ := hrel
        by_cases htl : t < 3
        · have htl2 : (t : Int) < 3 := by omega
          obtain ⟨ad, e', q0⟩ := rd_int (HR5.out _ HB.out) t htl
          cases e'
          have hx : ∃ N : Nat, N ≤ 17 ∧ ([15, 16, 17] : List Int).getD t 0 = (N : Int) := by
            have : t = 0 ∨ t = 1 ∨ t = 2 := by omega
            rcases this with rfl | rfl | rfl
            · exact ⟨15, by decide, rfl⟩
            · exact ⟨16, by decide, rfl⟩
            · exact ⟨17, by decide, rfl⟩
          obtain ⟨N, hN, hx⟩ := hx
          rw [hx, add_at] at q0
          clear hx
          go_upto_region 16 with fail
          go_loopw [6, 7, 8] (fun va vb iv wr => ∃ (i : Nat) (xs ys : List Int), i ≤ N ∧ iv = .int .i64 i ∧ Hid (xs.length = i) ∧ Hid (ys.length = i) ∧ Hid (wr.ownsRow C 3 1 va i (icells xs)) ∧ Hid (wr.ownsRow C 3 1 vb i (icells ys)) ∧ Hid (∀ q, va.ownBlock = some q → vb.ownBlock ≠ some q) ∧ Hid (Below C W5 wr)) (fun _ _ iv _ => N - (intOf iv).toNat)
          case atStart => exact ⟨0, [], [], Nat.zero_le _, rfl, rfl, rfl, World.ownsRow_nil _ _ _ _, World.ownsRow_nil _ _ _ _, fun q h => by simp [Value.ownBlock] at h, HB.out⟩
          case round =>
            obtain ⟨i, xs, ys, hi, rfl, HX, HY, HA, HV, HD, HB2⟩ := hrel
            obtain ⟨A6, c6, rfl⟩ := own_form HA.out
            obtain ⟨A7, c7, rfl⟩ := own_form HV.out
            have hCs : C ≤ wr.heap.size := by have h1 := HB2.out.size; have h2 := hCe.out; omega
            by_cases hil : i < N
            · have hil2 : (i : Int) < (N : Int) := by omega
              go_wp2_with (first
                | (at_builtin; refine ev_append1 C rfl (.tmp 38) (.tmp 42) 38 3 _ 1 8 rfl Try.underlying38 infoInt rfl (by decide) (by decide) (.slice A6 i c6) i (icells xs) [.int .i64 _] rfl rfl rfl (by simp [Value.oneCell']) HA.out hCs (by omega) ?_)
                | go_in)
              intro g1 c1 w3 ho hg hat
              have B3 : Hid (Below C W5 w3) := HB2.out.grown hg hCs (fun q hq => (HA.out.lt q hq).1)
              have V3 : Hid (w3.ownsRow C 3 1 (.slice A7 i c7) i (icells ys)) := HV.out.kept hg (by
                cases hv2 : (Value.slice A7 i c7).ownBlock with
                | none => exact .inl rfl
                | some q => exact .inr (fun e => HD.out q e.symm hv2))
              have D3 : Hid ((Value.slice A7 i c7).ownBlock ≠ some g1) := by
                show _ ≠ _
                intro e
                rcases hat with h | h
                · exact HD.out g1 h e
                · have := (HV.out.lt g1 e).2
                  omega
              have hC3 : C ≤ w3.heap.size := by have h1 := B3.out.size; have h2 := hCe.out; omega
              obtain ⟨z, hz⟩ : ∃ z, z = (i : Int) % 2 * 3 := ⟨_, rfl⟩
              have A3 : Hid (w3.ownsRow C 3 1 (.slice (some ⟨g1, 0, none⟩) (i + 1) c1) (i + 1) (icells (xs ++ [z]))) := by
                show World.ownsRow _ _ _ _ _ _ _
                rw [icells_append, hz]
                exact ho
              have HZ := Lib.hid hz
              clear ho hg hat hz
              go_wp2_with (first
                | (at_builtin; refine ev_appendR C rfl (.tmp 48) (.tmp 49) 38 3 _ 1 8 rfl Try.underlying38 infoInt rfl (by decide) (by decide) (.slice (some ⟨w3.heap.size, 0, none⟩) 1 1) 1 [.int .i64 _] A7 i c7 (icells ys) rfl rfl (by rw [icells_length, HY.out, Nat.mul_one]) ((own_rd V3.out).below ((Below.refl _ _).alloc (Nat.le_refl _) _)) (icells_one _) (World.ownsRow_lit w3 _ 1 hC3 (by decide) rfl) (by rw [World.size_alloc]; omega) (by omega) ?_)
                | go_in)
              intro A8 c8 w5 ho hg hat
              have hg1 : g1 < w3.heap.size := (A3.out.lt g1 rfl).2
              have A5 : Hid (w5.ownsRow C 3 1 (.slice (some ⟨g1, 0, none⟩) (i + 1) c1) (i + 1) (icells (xs ++ [z]))) := (A3.out.alloc _).kept hg (.inr (fun e => by
                have e : g1 = w3.heap.size := by simpa [Value.ownBlock] using e
                omega))
              obtain ⟨y, hy⟩ : ∃ y, y = 2 + (i : Int) % 2 * 2 := ⟨_, rfl⟩
              have V5 : Hid (w5.ownsRow C 3 1 (.slice A8 (1 + i) c8) (i + 1) (icells (y :: ys))) := by
                show World.ownsRow _ _ _ _ _ _ _
                rw [Nat.add_comm i 1, hy]
                exact ho
              have B5 : Hid (Below C W5 w5) := (B3.out.alloc hC3 _).grown hg (by rw [World.size_alloc]; omega) (fun q hq => by
                have hq : w3.heap.size = q := by simpa [Value.ownBlock] using hq
                omega)
              have D5 : Hid (∀ q, (Value.slice (some ⟨g1, 0, none⟩) (i + 1) c1).ownBlock = some q → (Value.slice A8 (1 + i) c8).ownBlock ≠ some q) := fun q hq e => by
                have hq : g1 = q := by simpa [Value.ownBlock] using hq
                rw [e] at hat
                rcases hat with h | h
                · have h : q = w3.heap.size := by simpa [Value.ownBlock] using h
                  omega
                · have h : q = w3.heap.size + 1 := by simpa using h
                  omega
              have X5 : Hid ((xs ++ [z]).length = i + 1) := by show _ = _; rw [List.length_append, HX.out]; rfl
              have Y5 : Hid ((y :: ys).length = i + 1) := by show _ = _; rw [List.length_cons, HY.out]
              clear ho hg hat hy
              go_wp2
              go_roundw
              case rel => exact ⟨i + 1, xs ++ [z], y :: ys, by omega, by go_num, X5, Y5, A5, V5, D5, B5⟩
              case measure => simp [intOf]; omega
            · obtain rfl : N = i := by omega
              obtain ⟨D, hD⟩ : ∃ D, D = wr.heap.size := ⟨_, rfl⟩
              have RA : Hid (∀ W', Below D wr W' → Rd W' A6 (icells xs)) := fun W' h => (own_rd HA.out).below (by rw [← hD]; exact h)
              have RV : Hid (∀ W', Below D wr W' → Rd W' A7 (icells ys)) := fun W' h => (own_rd HV.out).below (by rw [← hD]; exact h)
              have HDe := Lib.hid hD
              have hlx := Lib.hid (by rw [icells_length, HX.out, Nat.mul_one] : (icells xs).length = N * 1)
              have hly := Lib.hid (by rw [icells_length, HY.out, Nat.mul_one] : (icells ys).length = N * 1)
              have b0 : Hid (Below D wr wr) := by show Below _ _ _; exact Below.refl _ _
              have e0 : D ≤ wr.heap.size := by omega
              clear hD HD HA HV
              go_wp2_with (first
                | (at_builtin; refine ev_appendR D rfl (.tmp 51) (.tmp 52) 38 3 _ 1 8 rfl Try.underlying38 infoInt rfl (by decide) (by decide) (.slice (some ⟨wr.heap.size, 0, none⟩) 0 0) 0 [] A6 N c6 (icells xs) rfl rfl hlx.out (RA.out _ (b0.out.alloc e0 _)) (icells_one _) (World.ownsRow_lit wr _ 0 e0 (by decide) rfl) (by rw [World.size_alloc]; omega) (by omega) ?_)
                | go_in)
              intro A1 c1 w1 ho hg hat
              have b1 : Hid (Below D wr w1) := (b0.out.alloc e0 _).grown hg (by rw [World.size_alloc]; omega) (fun q hq => by
                have hq : wr.heap.size = q := by simpa [Value.ownBlock] using hq
                omega)
              have o1 := Lib.hid ho
              have e1 : D ≤ w1.heap.size := Nat.le_trans e0 b1.out.size
              clear ho hg hat
              go_wp2_with (first
                | (at_builtin; refine ev_appendR D rfl (.tmp 53) (.tmp 54) 38 3 _ 1 8 rfl Try.underlying38 infoInt rfl (by decide) (by decide) (.slice A1 N c1) N (icells xs) A7 N c7 (icells ys) rfl rfl hly.out (RV.out _ b1.out) (icells_one _) o1.out e1 (by omega) ?_)
                | go_in)
              intro A2 c2 w2 ho hg hat
              have b2 : Hid (Below D wr w2) := b1.out.grown hg e1 (fun q hq => (o1.out.lt q hq).1)
              have hr2 := Lib.hid (row_same w2 A2 (N + N) c2 (xs ++ ys) (by rw [List.length_append, HX.out, HY.out]) (by omega) (by rw [icells_append]; exact own_rd ho))
              have e2 : D ≤ w2.heap.size := Nat.le_trans e0 b2.out.size
              clear ho hg hat
              go_wp2_with (fail)
              refine hr2.out.mono ?_
              rintro e w3 ⟨v, rfl, hb3, hs3⟩
              have hs3 := Lib.hid hs3
              clear hb3
              go_wp2_with (fail)
              refine hs3.out.mono ?_
              rintro e w4 ⟨rfl, hb4⟩
              have b4 : Hid (Below D wr w4) := b2.out.trans (hb4.mono e2)
              have e4 : D ≤ w4.heap.size := Nat.le_trans e0 b4.out.size
              clear hb4
              go_wp2_with (first
                | (at_builtin; refine ev_guarded rfl ?_; refine ev_appendR D rfl (.tmp 60) (.tmp 61) 38 3 _ 1 8 rfl Try.underlying38 infoInt rfl (by decide) (by decide) (.slice (some ⟨w4.heap.size, 0, none⟩) 0 0) 0 [] A6 N c6 (icells xs) rfl rfl hlx.out (RA.out _ (b4.out.alloc e4 _)) (icells_one _) (World.ownsRow_lit w4 _ 0 e4 (by decide) rfl) (by rw [World.size_alloc]; omega) (by omega) ?_)
                | go_in)
              intro A5 c5 w5 ho hg hat
              have b5 : Hid (Below D wr w5) := (b4.out.alloc e4 _).grown hg (by rw [World.size_alloc]; omega) (fun q hq => by
                have hq : w4.heap.size = q := by simpa [Value.ownBlock] using hq
                omega)
              have o5 := Lib.hid ho
              have e5 : D ≤ w5.heap.size := Nat.le_trans e0 b5.out.size
              clear ho hg hat
              go_wp2_with (first
                | (at_builtin; refine ev_guarded rfl ?_; refine ev_append1 D rfl (.tmp 62) (.tmp 63) 38 3 _ 1 8 rfl Try.underlying38 infoInt rfl (by decide) (by decide) (.slice A5 N c5) N (icells xs) [.int .i64 5] rfl rfl rfl (by simp [Value.oneCell']) o5.out e5 (by omega) ?_)
                | go_in)
              intro g6 c6' w6 ho hg hat
              have b6 : Hid (Below D wr w6) := b5.out.grown hg e5 (fun q hq => (o5.out.lt q hq).1)
              have o6 : Hid (w6.ownsRow D 3 1 (.slice (some ⟨g6, 0, none⟩) (N + 1) c6') (N + 1) (icells (xs ++ [5]))) := by
                show World.ownsRow _ _ _ _ _ _ _
                rw [icells_append]
                exact ho
              have e6 : D ≤ w6.heap.size := Nat.le_trans e0 b6.out.size
              clear ho hg hat
              go_wp2_with (first
                | (at_builtin; refine ev_guarded rfl ?_; refine ev_appendR D rfl (.tmp 64) (.tmp 65) 38 3 _ 1 8 rfl Try.underlying38 infoInt rfl (by decide) (by decide) (.slice (some ⟨g6, 0, none⟩) (N + 1) c6') (N + 1) (icells (xs ++ [5])) A7 N c7 (icells ys) rfl rfl hly.out (RV.out _ b6.out) (icells_one _) o6.out e6 (by omega) ?_)
                | go_in)
              intro A8 c8 w7 ho hg hat
              have b7 : Hid (Below D wr w7) := b6.out.grown hg e6 (fun q hq => (o6.out.lt q hq).1)
              have hr7 := Lib.hid (row_same w7 A8 (N + 1 + N) c8 (xs ++ [5] ++ ys) (by rw [List.length_append, List.length_append, HX.out, HY.out]; rfl) (by omega) (by rw [icells_append]; exact own_rd ho))
              have e7 : D ≤ w7.heap.size := Nat.le_trans e0 b7.out.size
              clear ho hg hat
              go_wp2_with (fail)
              refine hr7.out.mono ?_
              rintro e w8 ⟨v, rfl, hb8, hs8⟩
              have hs8 := Lib.hid hs8
              clear hb8
              go_wp2_with (fail)
              refine hs8.out.mono ?_
              rintro e w9 ⟨rfl, hb9⟩
              have b9 : Hid (Below D wr w9) := b7.out.trans (hb9.mono e7)
              have e9 : D ≤ w9.heap.size := Nat.le_trans e0 b9.out.size
              have hr9 := Lib.hid (row_same w9 A6 N c6 xs HX.out (by omega) (RA.out _ b9.out))
              clear hb9
              go_wp2_with (fail)
              refine hr9.out.mono ?_
              rintro e w10 ⟨v, rfl, hb10, hs10⟩
              have hs10 := Lib.hid hs10
              clear hb10
              go_wp2_with (fail)
              refine hs10.out.mono ?_
              rintro e w11 ⟨rfl, hb11⟩
              have b11 : Hid (Below D wr w11) := b9.out.trans (hb11.mono e9)
              have hend : Hid (Below C W5 w11) := HB2.out.trans (b11.out.mono (by have := HDe.out; omega))
              clear hb11
              go_wp2
              go_roundw
              case rel => exact ⟨t + 1, by omega, by go_num, hend⟩
              case measure => simp [intOf]; omega
        · have htl2 : ¬ (t : Int) < 3 := by omega
          have hkn := Lib.hid (law8_known wr)
          go_wp2_with (fail)
          refine hkn.out.mono ?_
          rintro e w2 ⟨rfl, hb2⟩
          have HB2 : Hid (Below B W w2) := by
            have h1 := hCe.out
            have h2 : Below C W5 w2 := HB.out.trans (hb2.mono (by have := HB.out.size; omega))
            exact HB5.out.trans (h2.mono HBC.out)
          clear hb2
          go_wp2
          go_ret
          exact ⟨rfl, by rw [← hB.out]; exact HB2.out⟩
end Go.Proofs.Ytdbhhnphpjdmbaa
