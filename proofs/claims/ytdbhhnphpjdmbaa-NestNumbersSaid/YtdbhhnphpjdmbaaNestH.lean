/- The reference's reader: Tokens. No condition beyond the ones written. -/
import Derived.Test.YtdbhhnphpjdmbaaNestG
import Derived.Test.YtdbhhnphpjdmbaaNestF
import Derived.Deep.DeepCutAuto
namespace Go.Proofs.Ytdbhhnphpjdmbaa
open Go.RowKit
set_option maxRecDepth 100000
set_option linter.unusedVariables false
set_option linter.unusedSimpArgs false
theorem infoTk : (Try.prog.info? 57).map (fun i => (i.zero, i.size, i.bytes)) = some (some (.agg #[.int .i32 0, .int .i64 0, .int .i32 0]), 3, 24) := by kernel_rfl
theorem drop_get (l : List Int) (k : Nat) (hk : k < l.length) : l.drop k = l.getD k 0 :: l.drop (k + 1) := by
  rw [List.drop_eq_getElem_cons hk, List.getD_eq_getElem?_getD, List.getElem?_eq_getElem hk]
  rfl
theorem rd_rune {w : World} {A : Option Addr} {l : List Int} (h : Rd w A (rcells l)) (k : Nat) (hk : k < l.length) : ∃ ad, A = some ad ∧ w.cell? (ad.add k) = some (.int .i32 (l.getD k 0)) := by
  obtain ⟨ad, rfl, hc⟩ := h (fun e => by have := congrArg List.length e; rw [rcells_length] at this; simp at this; subst this; simp at hk)
  refine ⟨ad, rfl, hc k _ ?_⟩
  rw [rcells_get, List.getElem?_eq_getElem hk, List.getD_eq_getElem?_getD, List.getElem?_eq_getElem hk]
  rfl
theorem tok_push {w3 : World} {B m g1 c1 : Nat} {acc : List Tk} (t : Tk) (hm : m = acc.length) (ho : w3.ownsRow B 57 3 (.slice (some ⟨g1, 0, none⟩) (m + 1) c1) (m + 1) (tcells acc ++ [.int .i32 t.sign, .int .i64 t.n, .int .i32 t.name])) :
    w3.ownsRow B 57 3 (.slice (some ⟨g1, 0, none⟩) (m + 1) c1) (acc ++ [t]).length (tcells (acc ++ [t])) := by
  rw [tcells_append, List.length_append, ← hm]
  exact ho
/-- where the reference's reader stands within a number -/
structure NumAt (rs : List Int) (acc : List Tk) (k j : Nat) (m : Int) : Prop where
  later : k < j → tokOf rs = mach (.num m) acc (rs.drop j)
  first : j = k → m = 0 ∧ tokOf rs = mach .idle acc (rs.drop k)
theorem NumAt.step {rs : List Int} {acc : List Tk} {k j : Nat} {m d : Int} (h : NumAt rs acc k j m) (hkj : k ≤ j) (hj : j < rs.length) (hg : rs.getD j 0 = d) (hd : isDigit d = true) (hd32 : d ≠ 32) :
    (m * 10 + (d - 48) > bigMax → tokOf rs = none) ∧ (m * 10 + (d - 48) ≤ bigMax → NumAt rs acc k (j + 1) (m * 10 + (d - 48))) := by
  have hdr := drop_get rs j hj
  rw [hg] at hdr
  have hs : tokOf rs = if m * 10 + (d - 48) > bigMax then none else mach (.num (m * 10 + (d - 48))) acc (rs.drop (j + 1)) := by
    rcases Nat.lt_or_ge k j with hlt | hge
    · rw [h.later hlt, hdr]
      show (if isDigit d then (if m * 10 + (d - 48) > bigMax then none else some (Mode.num (m * 10 + (d - 48)), acc)) else idleStep (acc ++ [Tk.ofNum m]) d).bind _ = _
      rw [if_pos hd]
      split <;> rfl
    · have e : j = k := by omega
      obtain ⟨rfl, h1⟩ := h.first e
      subst e
      have hdd : 48 ≤ d ∧ d ≤ 57 := by simpa [isDigit] using hd
      rw [h1, hdr, if_neg (by unfold bigMax; omega)]
      show (idleStep acc d).bind _ = _
      unfold idleStep
      rw [if_neg hd32, if_pos hd, show (0 : Int) * 10 + (d - 48) = d - 48 by omega]
      rfl
  refine ⟨fun hov => by rw [hs, if_pos hov], fun hno => ⟨fun _ => by rw [hs, if_neg (by omega)], fun e => by omega⟩⟩
theorem NumAt.stop {rs : List Int} {acc : List Tk} {k j : Nat} {m : Int} (h : NumAt rs acc k j m) (hkj : k < j) (he : j = rs.length ∨ (j < rs.length ∧ isDigit (rs.getD j 0) = false)) : tokOf rs = mach .idle (acc ++ [Tk.ofNum m]) (rs.drop j) := by
  rw [h.later hkj]
  rcases he with rfl | ⟨hj, hd⟩
  · rw [List.drop_of_length_le (Nat.le_refl _)]
    rfl
  · rw [drop_get rs j hj]
    exact mach_nonDigit m acc _ _ hd
/-- the answers of the reference's reader -/
def TokAns (w : World) (s : ByteArray) (e : Ending) (w' : World) : Prop :=
  Below w.heap.size w w' ∧ ((∃ A c l, s.size ≤ 512 ∧ tokOf (rsOf s) = some l ∧ e = .returned (.tuple #[.slice A l.length c, .int .i64 0]) ∧ w'.ownsRow w.heap.size 57 3 (.slice A l.length c) l.length (tcells l)) ∨
    (512 < s.size ∧ e = .returned (.tuple #[.slice none 0 0, .int .i64 3])) ∨ (s.size ≤ 512 ∧ tokOf (rsOf s) = none ∧ e = .returned (.tuple #[.slice none 0 0, .int .i64 12])))
set_option maxHeartbeats 8000000 in
theorem ref_Tokens (w : World) (s : ByteArray) : Calls Try.prog 20 #[.string s] w (TokAns w s) := by
  by_cases hs : 512 < s.size
  · have d1 : decide ((512 : Int) < (s.size : Int)) = true := decide_eq_true (by omega)
    have hs := Lib.hid hs
    go_enter Try.func20, Try.ntmps20
    go_wp2
    go_ret2
    exact ⟨Below.refl _ _, .inr (.inl ⟨hs.out, rfl⟩)⟩
  · have d1 : decide ((512 : Int) < (s.size : Int)) = false := decide_eq_false (by omega)
    have hrl : (rsOf s).length ≤ s.size := rsFrom_length s s.size 0
    have hrr := Lib.hid (rsFrom_range s s.size 0)
    have hru := Lib.hid (ref_runes w s (by omega))
    obtain ⟨rs, hrs⟩ : ∃ rs, Hid (rsOf s = rs) := ⟨_, rfl⟩
    have hrr : Hid (∀ r ∈ rs, 0 ≤ r ∧ r ≤ 1114111) := by rw [← hrs.out]; exact hrr
    rw [hrs.out] at hrl hru
    have hs5 : Hid (s.size ≤ 512) := by show _ ≤ _; omega
    obtain ⟨n, hn⟩ : ∃ n, n = rs.length := ⟨_, rfl⟩
    rw [← hn] at hrl hru
    have HN := Lib.hid hn
    have hn5 : n ≤ 512 := by omega
    clear hs hn hrl
    go_enter Try.func20, Try.ntmps20
    go_wp2_with (fail)
    refine hru.out.mono ?_
    rintro e w1 ⟨A, c, rfl, ho, hb⟩
    have HR : Hid (∀ W', Below w1.heap.size w1 W' → Rd W' A (rcells rs)) := fun W' h => (own_rd ho).below h
    have hb1 := Lib.hid hb
    obtain ⟨B, hB⟩ : ∃ B, B = w1.heap.size := ⟨_, rfl⟩
    have hBw : Hid (w.heap.size ≤ B) := by show _ ≤ _; rw [hB]; exact hb.size
    have hBe := Lib.hid hB
    rw [← hB] at HR
    clear ho hb hB
    go_wp2
    go_loopw [5, 6, 7, 8] (fun vo i _ _ wr => ∃ (k : Nat) (acc : List Tk), k ≤ n ∧ acc.length ≤ k ∧ i = .int .i64 k ∧ Hid (tokOf rs = mach .idle acc (rs.drop k)) ∧ Hid (wr.ownsRow B 57 3 vo acc.length (tcells acc)) ∧ Hid (Below B w1 wr)) (fun _ i _ _ _ => n - (intOf i).toNat)
    case atStart => exact ⟨0, [], Nat.zero_le _, Nat.le_refl _, rfl, rfl, World.ownsRow_nil _ _ _ _, Below.refl _ _⟩
    case round =>
      obtain ⟨k, acc, hk, hak, rfl, HT, HO, HB⟩ := hrel
      obtain ⟨m, hm⟩ : ∃ m, m = acc.length := ⟨_, rfl⟩
      rw [← hm] at HO hak
      obtain ⟨A5, c5, rfl⟩ := own_form HO.out
      have Hm := Lib.hid hm
      have hBs : B ≤ wr.heap.size := by have := HB.out.size; have := hBe.out; omega
      clear hm
      by_cases hlt : k < n
      · obtain ⟨ad, rfl, q0⟩ := rd_rune (HR.out _ HB.out) k (by rw [← HN.out]; exact hlt)
        have hdr := Lib.hid (drop_get rs k (by rw [← HN.out]; exact hlt))
        obtain ⟨r, hr⟩ : ∃ r, Hid (rs.getD k 0 = r) := ⟨_, rfl⟩
        rw [hr.out] at q0 hdr
        have hrg : 0 ≤ r ∧ r ≤ 1114111 := hrr.out r (by
          rw [← hr.out, List.getD_eq_getElem?_getD, List.getElem?_eq_getElem (by rw [← HN.out]; exact hlt)]
          exact List.getElem_mem _)
        have hS : Hid (tokOf rs = (machStep .idle acc r).bind fun x => mach x.1 x.2 (rs.drop (k + 1))) := by
          show _ = _
          rw [HT.out, hdr.out]
          rfl
        have hlt2 : (k : Int) < (n : Int) := by omega
        by_cases h32 : r = 32
        · subst h32
          have hS2 : Hid (tokOf rs = mach .idle acc (rs.drop (k + 1))) := by
            show _ = _
            rw [hS.out]
            rfl
          clear hS HT hdr hr hrg
          go_wp2
          go_roundw
          case rel => exact ⟨k + 1, acc, by omega, by rw [← Hm.out]; omega, by go_num, hS2, by rw [← Hm.out]; exact HO, HB⟩
          case measure => simp [intOf]; omega
        · have b32 : (r == 32) = false := by simpa using h32
          by_cases hd : isDigit r = true
          · have hdd : 48 ≤ r ∧ r ≤ 57 := by simpa [isDigit] using hd
            have hk0 : Hid (NumAt rs acc k k 0) := ⟨fun h => absurd h (Nat.lt_irrefl k), fun _ => ⟨rfl, HT.out⟩⟩
            have hd := Lib.hid hd
            obtain ⟨hdd1, hdd2⟩ := hdd
            clear hS hdr h32 HT hrg
            go_upto_region 13 with fail
            go_loopw [6, 8] (fun i nv wq => ∃ (j : Nat) (mv : Int), k ≤ j ∧ j ≤ n ∧ i = .int .i64 j ∧ nv = .int .u64 mv ∧ 0 ≤ mv ∧ mv ≤ 9223372036854775807 ∧ Hid (NumAt rs acc k j mv) ∧ wq = wr) (fun i _ _ => n - (intOf i).toNat)
            case atStart => exact ⟨k, 0, Nat.le_refl _, hk, rfl, rfl, by decide, by decide, hk0, rfl⟩
            case round =>
              obtain ⟨j, mv, hkj, hjn, rfl, rfl, hm0, hmM, HNA, rfl⟩ := hrel
              by_cases hj : j < n
              · obtain ⟨ad', e', p0⟩ := rd_rune (HR.out _ HB.out) j (by rw [← HN.out]; exact hj)
                cases e'
                obtain ⟨d, hg⟩ : ∃ d, Hid (rs.getD j 0 = d) := ⟨_, rfl⟩
                rw [hg.out] at p0
                have hji : (j : Int) < (n : Int) := by omega
                have hjl : Hid (j < rs.length) := by show _ < _; rw [← HN.out]; exact hj
                by_cases hdj : isDigit d = true
                · have hst := HNA.out.step hkj hjl.out hg.out hdj (by intro e; subst e; revert hdj; decide)
                  obtain ⟨hdj1, hdj2⟩ : 48 ≤ d ∧ d ≤ 57 := by simpa [isDigit] using hdj
                  obtain ⟨hov1, hno1⟩ := hst
                  unfold bigMax at hov1 hno1
                  by_cases hov : mv * 10 + (d - 48) > 9223372036854775807
                  · have hno : Hid (tokOf rs = none) := hov1 hov
                    have hov3 : (9223372036854775807 - (d - 48)) / 10 < mv := by omega
                    clear hov1 hno1 hdj
                    go_wp2
                    go_ret2
                    exact ⟨hb1.out.trans (HB.out.mono hBw.out), .inr (.inr ⟨hs5.out, by rw [hrs.out]; exact hno.out, rfl⟩)⟩
                  · have hna : Hid (NumAt rs acc k (j + 1) (mv * 10 + (d - 48))) := hno1 (by omega)
                    have hov3 : ¬ (9223372036854775807 - (d - 48)) / 10 < mv := by omega
                    clear hov1 hno1 hdj
                    go_wp2
                    go_roundw
                    case rel => exact ⟨j + 1, mv * 10 + (d - 48), by omega, by omega, by go_num, rfl, by omega, by omega, hna, by first | rfl | trivial⟩
                    case measure => simp [intOf]; omega
                · have hdj' : isDigit d = false := by simpa using hdj
                  have hor : d < 48 ∨ 57 < d := by
                    have h := hdj'
                    unfold isDigit at h
                    simp at h
                    omega
                  have hkj2 : k < j := by
                    rcases Nat.lt_or_ge k j with h | h
                    · exact h
                    · exfalso
                      have e : j = k := by omega
                      subst e
                      have := hg.out
                      rw [hr.out] at this
                      subst this
                      exact hdj hd.out
                  have hS4 : Hid (tokOf rs = mach .idle (acc ++ [⟨48, mv, 0⟩]) (rs.drop j)) := HNA.out.stop hkj2 (.inr ⟨hjl.out, by rw [hg.out]; exact hdj'⟩)
                  clear hdj hdj' HNA hg
                  rcases hor with hor | hor
                  all_goals
                    go_wp2_with (first
                      | (at_builtin; refine ev_append1 B rfl (.tmp 75) (.tmp 79) 40 57 _ 3 24 rfl Try.underlying40 infoTk rfl (by decide) (by decide) (.slice A5 m c5) m (tcells acc) [.int .i32 48, .int .i64 mv, .int .i32 0] rfl rfl rfl (by simp [Value.oneCell']) HO.out hBs (by omega) ?_)
                      | go_in)
                    intro g1 c1 w3 ho hg hat
                    have HB3 : Hid (Below B w1 w3) := HB.out.grown hg hBs (fun q hq => (HO.out.lt q hq).1)
                    have HO3 := Lib.hid (tok_push ⟨48, mv, 0⟩ Hm.out ho)
                    clear ho hg hat
                    go_wp2
                    go_roundw
                    case rel => exact ⟨j, acc ++ [⟨48, mv, 0⟩], by omega, by rw [List.length_append, ← Hm.out]; simp; omega, by first | go_num | (congr 1; omega), hS4, HO3, HB3⟩
                    case measure => simp [intOf]; omega
              · obtain rfl : n = j := by omega
                have hkj2 : k < n := hlt
                have hS4 : Hid (tokOf rs = mach .idle (acc ++ [⟨48, mv, 0⟩]) (rs.drop n)) := HNA.out.stop hkj2 (.inl HN.out)
                clear HNA
                go_wp2_with (first
                  | (at_builtin; refine ev_append1 B rfl (.tmp 75) (.tmp 79) 40 57 _ 3 24 rfl Try.underlying40 infoTk rfl (by decide) (by decide) (.slice A5 m c5) m (tcells acc) [.int .i32 48, .int .i64 mv, .int .i32 0] rfl rfl rfl (by simp [Value.oneCell']) HO.out hBs (by omega) ?_)
                  | go_in)
                intro g1 c1 w3 ho hg hat
                have HB3 : Hid (Below B w1 w3) := HB.out.grown hg hBs (fun q hq => (HO.out.lt q hq).1)
                have HO3 := Lib.hid (tok_push ⟨48, mv, 0⟩ Hm.out ho)
                clear ho hg hat
                go_wp2
                go_roundw
                case rel => exact ⟨n, acc ++ [⟨48, mv, 0⟩], by omega, by rw [List.length_append, ← Hm.out]; simp; omega, by first | go_num | (congr 1; omega), hS4, HO3, HB3⟩
                case measure => simp [intOf]; omega
          · have hd' : isDigit r = false := by simpa using hd
            have hor : r < 48 ∨ 57 < r := by
              unfold isDigit at hd'
              simp at hd'
              omega
            by_cases hn2 : isNamed r = true
            · have hr2 : r = 955 ∨ r = 960 := by simpa [isNamed] using hn2
              have hS2 : Hid (tokOf rs = mach (.pend r) acc (rs.drop (k + 1))) := by
                show _ = _
                rw [hS.out]
                show (idleStep acc r).bind _ = _
                unfold idleStep
                rw [if_neg h32, if_neg hd, if_pos hn2]
                rfl
              clear hS hdr hd hd' hor hn2 h32 b32 HT
              by_cases hk1 : k + 1 < n
              · obtain ⟨ad', e', q1⟩ := rd_rune (HR.out _ HB.out) (k + 1) (by rw [← HN.out]; exact hk1)
                cases e'
                have q1 : wr.cell? ⟨ad.block, ad.off + (k + 1), none⟩ = some (.int .i32 (rs.getD (k + 1) 0)) := by
                  have h := q1
                  unfold Addr.add at h
                  rw [if_neg (by omega)] at h
                  exact h
                have hd1 := Lib.hid (drop_get rs (k + 1) (by rw [← HN.out]; exact hk1))
                obtain ⟨x, hx⟩ : ∃ x, Hid (rs.getD (k + 1) 0 = x) := ⟨_, rfl⟩
                rw [hx.out] at q1 hd1
                have hk1i : (k : Int) + 1 < (n : Int) := by omega
                have hnm := Lib.hid (ref_Name wr x)
                have hS3 : Hid (tokOf rs = if isName x then mach .idle (acc ++ [⟨r, 0, x⟩]) (rs.drop (k + 2)) else none) := by
                  show _ = _
                  rw [hS2.out, hd1.out]
                  show (if isName x then some (Mode.idle, acc ++ [⟨r, 0, x⟩]) else none).bind _ = _
                  split <;> rfl
                obtain ⟨b, hb⟩ : ∃ b, Hid (isName x = b) := ⟨_, rfl⟩
                rw [hb.out] at hnm
                have hk1n : decide ((n : Int) ≤ (k : Int) + 1) = false := decide_eq_false (by omega)
                cases b with
                | true =>
                  have hS4 : Hid (tokOf rs = mach .idle (acc ++ [⟨r, 0, x⟩]) (rs.drop (k + 2))) := by
                    show _ = _
                    rw [hS3.out, if_pos hb.out]
                  clear hS3 hS2 hd1
                  rcases hr2 with rfl | rfl
                  all_goals
                    go_wp2_with (fail)
                    refine hnm.out.mono ?_
                    rintro e w' ⟨rfl, rfl⟩
                    go_wp2_with (first
                      | (at_builtin; refine ev_append1 B rfl (.tmp 102) (.tmp 110) 40 57 _ 3 24 rfl Try.underlying40 infoTk rfl (by decide) (by decide) (.slice A5 m c5) m (tcells acc) [.int .i32 _, .int .i64 0, .int .i32 x] rfl rfl rfl (by simp [Value.oneCell']) HO.out hBs (by omega) ?_)
                      | go_in)
                    intro g1 c1 w3 ho hg hat
                    have HB3 : Hid (Below B w1 w3) := HB.out.grown hg hBs (fun q hq => (HO.out.lt q hq).1)
                    have HO3 := Lib.hid (tok_push ⟨_, 0, x⟩ Hm.out ho)
                    clear ho hg hat
                    go_wp2
                    go_roundw
                    case rel => exact ⟨k + 2, acc ++ [⟨_, 0, x⟩], by omega, by rw [List.length_append, ← Hm.out]; simp; omega, by go_num, hS4, HO3, HB3⟩
                    case measure => simp [intOf]; omega
                | false =>
                  have hno : Hid (tokOf rs = none) := by
                    show _ = _
                    rw [hS3.out, if_neg (by rw [hb.out]; decide)]
                  clear hS3 hS2 hd1
                  rcases hr2 with rfl | rfl
                  all_goals
                    go_wp2_with (fail)
                    refine hnm.out.mono ?_
                    rintro e w' ⟨rfl, rfl⟩
                    go_wp2
                    go_ret2
                    exact ⟨hb1.out.trans (HB.out.mono hBw.out), .inr (.inr ⟨hs5.out, by rw [hrs.out]; exact hno.out, rfl⟩)⟩
              · have hno : Hid (tokOf rs = none) := by
                  show _ = _
                  rw [hS2.out, List.drop_of_length_le (by rw [← HN.out]; omega)]
                  rfl
                have hk1n : decide ((n : Int) ≤ (k : Int) + 1) = true := decide_eq_true (by omega)
                clear hS2
                rcases hr2 with rfl | rfl
                all_goals
                  go_wp2
                  go_ret2
                  exact ⟨hb1.out.trans (HB.out.mono hBw.out), .inr (.inr ⟨hs5.out, by rw [hrs.out]; exact hno.out, rfl⟩)⟩
            · have hn3 : ¬ (r = 955 ∨ r = 960) := by simpa [isNamed] using hn2
              have n1 : (r == 955) = false := by simpa using fun e => hn3 (.inl e)
              have n2 : (r == 960) = false := by simpa using fun e => hn3 (.inr e)
              have hkn := Lib.hid (ref_Known wr r)
              have hS2 : Hid (tokOf rs = if isKnown r then mach .idle (acc ++ [⟨r, 0, 0⟩]) (rs.drop (k + 1)) else none) := by
                show _ = _
                rw [hS.out]
                show (idleStep acc r).bind _ = _
                unfold idleStep
                rw [if_neg h32, if_neg hd, if_neg hn2]
                split <;> rfl
              obtain ⟨b, hb⟩ : ∃ b, Hid (isKnown r = b) := ⟨_, rfl⟩
              rw [hb.out] at hkn
              clear hS hdr hd hd' hn2 hn3 h32 HT
              cases b with
              | true =>
                have hS4 : Hid (tokOf rs = mach .idle (acc ++ [⟨r, 0, 0⟩]) (rs.drop (k + 1))) := by
                  show _ = _
                  rw [hS2.out, if_pos hb.out]
                clear hS2
                rcases hor with hor | hor
                all_goals
                  go_wp2_with (fail)
                  refine hkn.out.mono ?_
                  rintro e w2 ⟨rfl, hq⟩
                  have HB2 : Hid (Below B w1 w2) := HB.out.trans (hq.mono hBs)
                  have HO2 := Lib.hid (own_below HO.out hq)
                  have hBs2 : B ≤ w2.heap.size := Nat.le_trans hBs hq.size
                  clear hq
                  go_wp2_with (first
                    | (at_builtin; refine ev_append1 B rfl (.tmp 117) (.tmp 120) 40 57 _ 3 24 rfl Try.underlying40 infoTk rfl (by decide) (by decide) (.slice A5 m c5) m (tcells acc) [.int .i32 r, .int .i64 0, .int .i32 0] rfl rfl rfl (by simp [Value.oneCell']) HO2.out hBs2 (by omega) ?_)
                    | go_in)
                  intro g1 c1 w3 ho hg hat
                  have HB3 : Hid (Below B w1 w3) := HB2.out.grown hg hBs2 (fun q hq => (HO2.out.lt q hq).1)
                  have HO3 := Lib.hid (tok_push ⟨r, 0, 0⟩ Hm.out ho)
                  clear ho hg hat
                  go_wp2
                  go_roundw
                  case rel => exact ⟨k + 1, acc ++ [⟨r, 0, 0⟩], by omega, by rw [List.length_append, ← Hm.out]; simp; omega, by go_num, hS4, HO3, HB3⟩
                  case measure => simp [intOf]; omega
              | false =>
                have hno : Hid (tokOf rs = none) := by
                  show _ = _
                  rw [hS2.out, if_neg (by rw [hb.out]; decide)]
                clear hS2
                rcases hor with hor | hor
                all_goals
                  go_wp2_with (fail)
                  refine hkn.out.mono ?_
                  rintro e w2 ⟨rfl, hq⟩
                  have HB2 : Hid (Below B w1 w2) := HB.out.trans (hq.mono hBs)
                  clear hq
                  go_wp2
                  go_ret2
                  exact ⟨hb1.out.trans (HB2.out.mono hBw.out), .inr (.inr ⟨hs5.out, by rw [hrs.out]; exact hno.out, rfl⟩)⟩
      · obtain rfl : n = k := by omega
        have hfin : Hid (tokOf rs = some acc) := by
          show _ = _
          rw [HT.out, List.drop_of_length_le (by rw [← HN.out]; exact Nat.le_refl _)]
          rfl
        clear HT
        go_wp2
        go_ret2
        exact ⟨hb1.out.trans (HB.out.mono hBw.out), .inl ⟨A5, c5, acc, hs5.out, by rw [hrs.out]; exact hfin.out, by rw [← Hm.out]; rfl, by rw [← Hm.out]; exact own_base HO.out hBw.out⟩⟩
end Go.Proofs.Ytdbhhnphpjdmbaa
