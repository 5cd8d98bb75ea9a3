/- Contracts of package reply and of the law ReplyRows: what each call answers and what it leaves in memory. No condition beyond the ones written. -/
import Derived.Test.YtdbhhnphpjdmbaaReplyC
import Derived.Handy
namespace Go.Proofs.Ytdbhhnphpjdmbaa
open Go.RowKit
set_option maxRecDepth 100000
set_option linter.unusedVariables false
theorem runes_ab (w : World) : Calls Try.prog 71 #[.string ⟨#[97, 98]⟩] w fun e w' => e = .returned (.int .i64 2) ∧ Below w.heap.size w w' := by
  have h0 := run_next_ascii (P := Try.prog) w ⟨#[97, 98]⟩ 0 0 (by decide) (by decide)
  have h1 := run_next_ascii (P := Try.prog) w ⟨#[97, 98]⟩ 1 0 (by decide) (by decide)
  have h2 := run_next_end (P := Try.prog) w ⟨#[97, 98]⟩ 2 0 (by decide)
  go_enter Try.func71, Try.ntmps71
  go_wp2
  refine wp_loop_rounds 3 ?_
  rw [rounds_succ]
  go_wp2
  rw [rounds_succ]
  go_wp2
  rw [rounds_succ]
  go_wp2
  go_ret
  exact ⟨rfl, (Below.refl _ _).alloc (Nat.le_refl _) _⟩
theorem runes_x (w : World) : Calls Try.prog 71 #[.string ⟨#[120]⟩] w fun e w' => e = .returned (.int .i64 1) ∧ Below w.heap.size w w' := by
  have h0 := run_next_ascii (P := Try.prog) w ⟨#[120]⟩ 0 0 (by decide) (by decide)
  have h2 := run_next_end (P := Try.prog) w ⟨#[120]⟩ 1 0 (by decide)
  go_enter Try.func71, Try.ntmps71
  go_wp2
  refine wp_loop_rounds 2 ?_
  rw [rounds_succ]
  go_wp2
  rw [rounds_succ]
  go_wp2
  go_ret
  exact ⟨rfl, (Below.refl _ _).alloc (Nat.le_refl _) _⟩
theorem of_str (s : ByteArray) (n : Int) (hr : ∀ w, Calls Try.prog 71 #[.string s] w fun e w' => e = .returned (.int .i64 n) ∧ Below w.heap.size w w') : OfOk (.iface 9 (.string s)) (n, true) := by
  intro w
  have HR := Lib.hid hr
  clear hr
  have h1 : (Instr.typeAssert (.iface 9 (.string s)) 20 3 true).run Try.prog w = .ok (.tuple #[.int .i64 0, .bool false]) w := by kernel_rfl
  have h2 : (Instr.typeAssert (.iface 9 (.string s)) 20 2 true).run Try.prog w = .ok (.tuple #[.int .i64 0, .bool false]) w := by kernel_rfl
  have h3 : (Instr.typeAssert (.iface 9 (.string s)) 20 4 true).run Try.prog w = .ok (.tuple #[.bool false, .bool false]) w := by kernel_rfl
  have h4 : (Instr.typeAssert (.iface 9 (.string s)) 20 21 true).run Try.prog w = .ok (.tuple #[.int .i32 0, .bool false]) w := by kernel_rfl
  have h5 : (Instr.typeAssert (.iface 9 (.string s)) 20 9 true).run Try.prog w = .ok (.tuple #[.string s, .bool true]) w := by kernel_rfl
  go_enter Try.func34, Try.ntmps34
  go_wp2_with (go_at_call 71; refine (HR.out _).mono ?_; rintro e w' ⟨rfl, hb⟩)
  go_ret2
  exact ⟨rfl, hb⟩
theorem ofok_same {v : Value} {r : Int × Bool} (h : ∀ w, Calls Try.prog 34 #[v] w fun e w' => e = .returned (.tuple #[.int .i64 r.1, .bool r.2]) ∧ w = w') : OfOk v r := fun w => (h w).mono fun e w' ⟨he, hw⟩ => ⟨he, hw ▸ Below.refl _ _⟩
theorem info2 : (Try.prog.info? 2).map (fun i => (i.zero, i.size, i.bytes)) = some (some (.int .i64 0), 1, 8) := by kernel_rfl
def numCells (l : List (Int × Bool)) : List Value := l.map fun x => .int .i64 x.1
set_option maxHeartbeats 400000 in
theorem all_calls (w : World) (A : Option Addr) (n c : Nat) (vs : List Value) (rs : List (Int × Bool)) (hvs : vs.length = n) (hrs : rs.length = n) (hn : n ≤ 64) (hc : n ≤ c)
    (hA : 0 < n → ∃ g o, A = some ⟨g, o, none⟩ ∧ g < w.heap.size ∧ ∀ (j : Nat) v, vs[j]? = some v → w.cell? ⟨g, o + j, none⟩ = some v)
    (hof : ∀ (j : Nat) v r, vs[j]? = some v → rs[j]? = some r → OfOk v r) :
    Calls Try.prog 36 #[.slice A n c] w fun e w' => Below w.heap.size w w' ∧
      ((∃ v', e = .returned (.tuple #[v', .bool true]) ∧ w'.ownsRow w.heap.size 2 1 v' n (numCells rs) ∧ ∀ r ∈ rs, r.2 = true) ∨ (e = .returned (.tuple #[.slice none 0 0, .bool false]) ∧ ∃ r ∈ rs, r.2 = false)) := by
  have HA := Lib.hid hA
  have HOF := Lib.hid hof
  have HVS := Lib.hid hvs
  have HRS := Lib.hid hrs
  clear hA hof hvs hrs
  have hnot : ∀ (x : Bool) (w : World), (Op.unary .not (.bool x)).run Try.prog w = .ok (.bool (!x)) w := fun _ _ => rfl
  go_enter Try.func36, Try.ntmps36
  go_wp2
  go_loopw [4, 11] (fun sv i wr => ∃ (k : Nat) (vl : Value), k ≤ n ∧ i = .int .i64 k ∧ sv = vl ∧ Hid (wr.ownsRow w.heap.size 2 1 vl k (numCells (rs.take k))) ∧ Hid (Below w.heap.size w wr) ∧ Hid (∀ r ∈ rs.take k, r.2 = true)) (fun _ i _ => n - (intOf i).toNat)
  case atStart => exact ⟨0, _, Nat.zero_le _, rfl, rfl, World.ownsRow_nil _ _ _ _, Below.refl _ _, fun r hr => by simp at hr⟩
  case round =>
    obtain ⟨k, vl, hk, rfl, rfl, Ho, HB, HT⟩ := hrel
    by_cases hlt : k < n
    · obtain ⟨g, o, rfl, hg, hcell⟩ := HA.out (by omega)
      obtain ⟨v, hv⟩ : ∃ v, vs[k]? = some v := ⟨_, List.getElem?_eq_getElem (by rw [HVS.out]; exact hlt)⟩
      obtain ⟨r, hr⟩ : ∃ r, rs[k]? = some r := ⟨_, List.getElem?_eq_getElem (by rw [HRS.out]; exact hlt)⟩
      obtain ⟨q, ok⟩ := r
      have hcw : wr.cell? ⟨g, o + k, none⟩ = some v := (HB.out.cell hg).trans (hcell k v hv)
      have Hof := Lib.hid (HOF.out k v _ hv hr)
      have Hr := Lib.hid hr
      clear hcell hv hr
      go_wp2_with (fail)
      refine (Hof.out _).mono ?_
      rintro e w1 ⟨rfl, hb⟩
      have ho1 := own_below Ho.out hb
      have HB1 : Hid (Below w.heap.size w w1) := below_trans' HB.out HB.out.size hb
      clear hb
      have hs1 := HB1.out.size
      cases ok with
      | false =>
        go_wp2
        go_ret2
        exact ⟨HB1.out, .inr ⟨rfl, (q, false), List.mem_of_getElem? Hr.out, rfl⟩⟩
      | true =>
        go_wp2_with (first
          | (at_builtin; refine ev_append1 w.heap.size rfl (.tmp 22) (.tmp 24) 22 2 _ 1 8 rfl Try.underlying22 info2 rfl (by decide) (by decide) _ k (numCells (rs.take k)) [.int .i64 q] rfl rfl rfl (by simp [Value.oneCell']) ho1 hs1 (by omega) ?_)
          | go_in)
        intro g1 c1 w2 hown2 hg2 _
        have Ho2 : Hid (w2.ownsRow w.heap.size 2 1 (.slice (some ⟨g1, 0, none⟩) (k + 1) c1) (k + 1) (numCells (rs.take (k + 1)))) := by
          rw [take_snoc' rs k _ Hr.out]
          simpa [numCells, Hid] using hown2
        have HB2 : Hid (Below w.heap.size w w2) := HB1.out.grown hg2 hs1 (fun q hq => (ho1.lt q hq).1)
        clear hown2 hg2 ho1
        go_wp2
        go_roundw
        case rel =>
          refine ⟨k + 1, _, by omega, by go_num, rfl, Ho2, HB2, fun r hr => ?_⟩
          rw [take_snoc' rs k _ Hr.out] at hr
          rcases List.mem_append.1 hr with hr | hr
          · exact HT.out r hr
          · rw [List.mem_singleton.1 hr]
        case measure => simp [intOf]; omega
    · obtain rfl : k = n := by omega
      go_wp2
      go_ret2
      have ho := Ho.out
      have ht := HT.out
      rw [List.take_of_length_le (by rw [HRS.out]; exact Nat.le_refl _)] at ho ht
      exact ⟨HB.out, .inl ⟨_, rfl, ho, ht⟩⟩
/-- whole numbers as values -/
def i64s (l : List Int) : List Value := l.map fun x => .int .i64 x
theorem i64s_get (l : List Int) (j : Nat) : (i64s l)[j]? = l[j]?.map fun x => .int .i64 x := by simp [i64s]
theorem same_calls (w : World) (A B : Option Addr) (c d : Nat) (xs ys : List Int) (hx : xs.length ≤ 4611686018427387904) (hA : Rd w A (i64s xs)) (hB : Rd w B (i64s ys)) (hc : xs.length ≤ c) (hd : ys.length ≤ d) :
    Calls Try.prog 37 #[.slice A xs.length c, .slice B ys.length d] w fun e w' => e = .returned (.bool (decide (xs = ys))) ∧ Below w.heap.size w w' := by
  have HAA := Lib.hid hA
  have HBB := Lib.hid hB
  clear hA hB
  by_cases hl : xs.length = ys.length
  · have h1 : ((xs.length : Int) != (ys.length : Int)) = false := by simp [hl]
    have HL := Lib.hid hl
    clear hl
    go_enter Try.func37, Try.ntmps37
    go_wp2
    go_loopw [5] (fun i wr => ∃ k : Nat, k ≤ xs.length ∧ i = .int .i64 k ∧ Hid (xs.take k = ys.take k) ∧ Hid (Below w.heap.size w wr)) (fun i _ => xs.length - (intOf i).toNat)
    case atStart => exact ⟨0, Nat.zero_le _, rfl, rfl, Below.refl _ _⟩
    case round =>
      obtain ⟨k, hk, rfl, HE, HW⟩ := hrel
      by_cases hlt : k < xs.length
      · obtain ⟨x, hx⟩ : ∃ x, xs[k]? = some x := ⟨_, List.getElem?_eq_getElem hlt⟩
        obtain ⟨y, hy⟩ : ∃ y, ys[k]? = some y := ⟨_, List.getElem?_eq_getElem (HL.out ▸ hlt)⟩
        have hsx : (i64s xs)[k]? = some (.int .i64 x) := by rw [i64s_get, hx]; rfl
        have hsy : (i64s ys)[k]? = some (.int .i64 y) := by rw [i64s_get, hy]; rfl
        obtain ⟨ad, rfl, hca⟩ := HAA.out (fun e => by rw [e] at hsx; simp at hsx)
        obtain ⟨bd, rfl, hcb⟩ := HBB.out (fun e => by rw [e] at hsy; simp at hsy)
        have c1 : wr.cell? (ad.add k) = some (.int .i64 x) := (HW.out.cell (cell_blk (hca k _ hsx))).trans (hca k _ hsx)
        have c2 : wr.cell? (bd.add k) = some (.int .i64 y) := (HW.out.cell (cell_blk (hcb k _ hsy))).trans (hcb k _ hsy)
        have Hx := Lib.hid hx
        have Hy := Lib.hid hy
        have hly : k < ys.length := HL.out ▸ hlt
        clear hca hcb hx hy hsx hsy
        by_cases hxy : x = y
        · subst hxy
          go_wp2
          go_quiet (fail)
          go_wp2
          go_roundw
          case rel =>
            refine ⟨k + 1, by omega, by go_num, ?_, below_drewN' HW.out _⟩
            show xs.take (k + 1) = ys.take (k + 1)
            rw [take_snoc' xs k _ Hx.out, take_snoc' ys k _ Hy.out, HE.out]
          case measure => simp [intOf]; omega
        · have hne : (x != y) = true := by simpa using hxy
          have HXY := Lib.hid hxy
          clear hxy
          go_wp2
          go_quiet (fail)
          go_wp2
          go_ret
          refine ⟨?_, below_drewN' HW.out _⟩
          have : ¬ xs = ys := fun e => HXY.out (by have h := Hx.out; rw [e, Hy.out] at h; exact (Option.some.inj h).symm)
          simp [this]
      · obtain rfl : k = xs.length := by omega
        go_wp2
        go_ret
        refine ⟨?_, HW.out⟩
        have h := HE.out
        rw [List.take_length, HL.out, List.take_length] at h
        simp [h]
  · have h1 : ((xs.length : Int) != (ys.length : Int)) = true := by simp; omega
    have HL := Lib.hid hl
    clear hl
    go_enter Try.func37, Try.ntmps37
    go_wp2
    go_ret
    refine ⟨?_, Below.refl _ _⟩
    have : ¬ xs = ys := fun e => HL.out (by rw [e])
    simp [this]
end Go.Proofs.Ytdbhhnphpjdmbaa
