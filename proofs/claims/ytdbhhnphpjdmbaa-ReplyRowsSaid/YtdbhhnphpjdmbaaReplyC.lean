/- Contracts of package reply and of the law ReplyRows: what each call answers and what it leaves in memory. No condition beyond the ones written. -/
import Derived.Test.YtdbhhnphpjdmbaaReplyB
import Derived.Recover
namespace Go.Proofs.Ytdbhhnphpjdmbaa
open Go.RowKit
set_option maxRecDepth 100000
set_option linter.unusedVariables false

theorem info20 : (Try.prog.info? 20).map (fun i => (i.zero, i.size, i.bytes)) = some (some .nilIface, 1, 16) := by kernel_rfl
/-- what Of answers, whatever the world -/
def OfOk (v : Value) (r : Int × Bool) : Prop := ∀ w, Calls Try.prog 34 #[v] w fun e w' => e = .returned (.tuple #[.int .i64 r.1, .bool r.2]) ∧ Below w.heap.size w w'
theorem ans_snoc (l : List (Int × Bool)) (x : Int × Bool) : ansCells l ++ [.int .i64 x.1, .bool x.2] = ansCells (l ++ [x]) := by simp [ansCells]
theorem ans_of_own {w : World} {B n : Nat} {vl : Value} {rs : List (Int × Bool)} (hn : rs.length = n) (ho : w.ownsRow B 85 2 vl n (ansCells rs)) (hs : n ≤ 64) : Ans w vl rs := by
  subst hn
  rcases ho.2 with ⟨rfl, h0⟩ | ⟨g, cap, cur, rfl, _, hg, h1, h2, h3, h4⟩
  · have : rs = [] := List.eq_nil_of_length_eq_zero h0
    subst this
    exact ⟨none, 0, rfl, Nat.le_refl _, Nat.zero_le _, fun h => absurd rfl h⟩
  · refine ⟨_, cap, rfl, h1, h2, fun _ => ⟨g, 0, cur, rfl, hg, cur.toList.drop (rs.length * 2), ?_⟩⟩
    rw [List.drop_zero, ← h4, List.take_append_drop]
set_option maxHeartbeats 400000 in
theorem new_calls (w : World) (A : Option Addr) (n c : Nat) (vs : List Value) (rs : List (Int × Bool)) (hvs : vs.length = n) (hrs : rs.length = n) (hn : n ≤ 64) (hc : n ≤ c)
    (hA : 0 < n → ∃ g o, A = some ⟨g, o, none⟩ ∧ g < w.heap.size ∧ ∀ (j : Nat) v, vs[j]? = some v → w.cell? ⟨g, o + j, none⟩ = some v)
    (hof : ∀ (j : Nat) v r, vs[j]? = some v → rs[j]? = some r → OfOk v r) :
    Calls Try.prog 11 #[.slice A n c] w fun e w' => ∃ b, e = .returned (.pointer (some ⟨b, 0, none⟩)) ∧ RowSt w' w.heap.size b rs [] ∧ Below w.heap.size w w' := by
  have hmin := run_min (P := Try.prog) #[3, 3] 3 .i64 n 64 n (by omega)
  have hsl := slice_to 25 20 .i64 Try.underlying25 info20 A n c n hc
  have HA := Lib.hid hA
  have HOF := Lib.hid hof
  have HVS := Lib.hid hvs
  have HRS := Lib.hid hrs
  clear hA hof hvs hrs
  go_enter Try.func11, Try.ntmps11
  go_wp2
  go_loopw [16] (fun i wr => ∃ k : Nat, k ≤ n ∧ i = .int .i64 k ∧ ∃ vl, Hid (wr.heap[w.heap.size]? = some (.cells #[vl, .slice none 0 0] 82 (0, 0))) ∧ Hid (wr.ownsRow w.heap.size 85 2 vl k (ansCells (rs.take k))) ∧ Hid (Below w.heap.size w wr)) (fun i _ => n - (intOf i).toNat)
  case atStart => exact ⟨0, Nat.zero_le _, rfl, _, heap_alloc_new w _, World.ownsRow_nil _ _ _ _, (Below.refl _ _).alloc (Nat.le_refl _) _⟩
  case round =>
    obtain ⟨k, hk, rfl, vl, Hb, Ho, HB⟩ := hrel
    by_cases hlt : k < n
    · obtain ⟨g, o, rfl, hg, hcell⟩ := HA.out (by omega)
      obtain ⟨v, hv⟩ : ∃ v, vs[k]? = some v := ⟨_, List.getElem?_eq_getElem (by rw [HVS.out]; exact hlt)⟩
      obtain ⟨r, hr⟩ : ∃ r, rs[k]? = some r := ⟨_, List.getElem?_eq_getElem (by rw [HRS.out]; exact hlt)⟩
      have hcw : wr.cell? ⟨g, o + k, none⟩ = some v := (HB.out.cell hg).trans (hcell k v hv)
      have Hof := Lib.hid (HOF.out k v r hv hr)
      have Hr := Lib.hid hr
      clear hcell hv hr
      go_wp2_with (fail)
      refine (Hof.out _).mono ?_
      rintro e w1 ⟨rfl, hb⟩
      have hbl : w.heap.size < wr.heap.size := blk_lt Hb.out
      have hb1 := (hb.block _ hbl).trans Hb.out
      have ho1 : w1.ownsRow w.heap.size 85 2 vl k (ansCells (rs.take k)) := own_move' Ho.out (fun q hq => by
        obtain ⟨cells, hc⟩ := own_blk Ho.out q hq
        exact hb.block q (blk_lt hc))
      have HB1 : Hid (Below w.heap.size w w1) := HB.out.trans (hb.mono (Nat.le_of_lt hbl))
      have c0 := blk_cell hb1 0
      simp at c0
      have Hb1 := Lib.hid hb1
      clear hb1 hb
      have hs1 := HB1.out.size
      go_wp2_with (first
        | (at_builtin; refine ev_append1 w.heap.size rfl _ _ 80 85 _ 2 16 rfl Try.underlying80 info85 rfl (by decide) (by decide) vl k (ansCells (rs.take k)) [.int .i64 r.1, .bool r.2] rfl rfl rfl (by simp [Value.oneCell']) ho1 hs1 (by omega) ?_)
        | go_in)
      intro g1 c1 w2 hown2 hg2 _
      have hb2 := (hg2.block _ (blk_lt Hb1.out) (own_ne ho1 Hb1.out (by decide))).trans Hb1.out
      have Ho2 : Hid (w2.ownsRow w.heap.size 85 2 (.slice (some ⟨g1, 0, none⟩) (k + 1) c1) (k + 1) (ansCells (rs.take (k + 1)))) := by
        rw [take_snoc' rs k r Hr.out, ← ans_snoc]
        exact hown2
      have HB2 : Hid (Below w.heap.size w w2) := HB1.out.grown hg2 hs1 (fun q hq => (ho1.lt q hq).1)
      have f0 := blk_free hb2 0
      have c0' := blk_cell hb2 0
      simp at c0'
      have Hb2 := Lib.hid hb2
      have hs2 := HB2.out.size
      clear hb2 hown2 hg2 ho1 c0
      go_wp2
      go_roundw
      case rel =>
        refine ⟨k + 1, by omega, by go_num, _, blk_set Hb2.out 0 _, own_move' Ho2.out (fun q hq => ?_), HB2.out.setCell (Nat.le_refl _) _⟩
        refine Below.heap_setCell _ _ _ _ (fun e => own_ne Ho2.out Hb2.out (by decide) ?_)
        rw [hq, e]
      case measure => simp [intOf]; omega
    · obtain rfl : k = n := by omega
      go_wp2
      go_ret
      refine ⟨_, rfl, ⟨Nat.le_refl _, vl, _, Hb.out, ?_, World.ownsRow_nil _ _ _ _⟩, HB.out⟩
      have ho := Ho.out
      rw [List.take_of_length_le (by rw [HRS.out]; exact Nat.le_refl _)] at ho
      exact ans_of_own (by rw [HRS.out]) ho (by omega)

theorem ta_nil (w : World) : (Instr.typeAssert .nilIface 20 2 false).run Try.prog w = .halt (.panic (.iface 15 (.pointer (some ⟨w.heap.size, 0, none⟩)))) (w.alloc (.cells #[typeHandle Try.prog 20, .pointer none, typeHandle Try.prog 2, strVal ""] 169)) := by
  kernel_rfl
theorem sure_float (b : Nat) (w : World) : Calls Try.prog 73 #[.iface 89 (.float .f64 b)] w fun e w' => ∃ o, e = .panicked [{ v := .iface 15 (.pointer (some ⟨w.heap.size, 0, none⟩)), recovered := false }] ∧ w' = w.alloc o := by
  have h := ta_nil w
  go_enter Try.func73, Try.ntmps73
  go_wp2_with (go_at_call 34; refine (of_float _ _).mono ?_; rintro e w' ⟨rfl, rfl⟩)
  exact ⟨rfl, _, rfl, rfl⟩
theorem catch_panicking (p : Addr) (x : Int) (u : TypeId) (pv : Value) (older : List PanicEntry) (w : World) (hc : w.cell? p = some (.int .i64 x)) (hz : w.frozen? p = false) :
    CallsD Try.prog 72 #[.pointer (some p)] (.panicking ({ v := .iface u pv, recovered := false } :: older)) w fun e u' w' =>
      e = .returned (.tuple #[]) ∧ u' = .panicking ({ v := .iface u pv, recovered := true } :: older) ∧ w' = w.setCell p (.int .i64 (-1)) := by
  refine callsD_of_wpS Try.func72 rfl fun c₀ cs hu => ?_
  apply wpS_seq
  apply wpS_region
  simp [wpOpsS, go_sem, recoverD, hu, Try.ntmps72, Exit.thenS]
  refine wpS_cond (t := true) (by simp [Act.eval, Array.replicate]) ?_
  simp only [if_true]
  apply wpS_region
  simp [wpOpsS, go_sem, hc, hz, bodyPostS, results, Try.results72]
theorem must_float (b : Nat) (w : World) : Calls Try.prog 38 #[.iface 89 (.float .f64 b)] w fun e w' => e = .returned (.int .i64 (-1)) ∧ Below w.heap.size w w' := by
  have hmf : ∀ (fn : Fn) (first cap : Array Value) (w : World), (Instr.makeFunc fn first cap).run Try.prog w = .ok (.func fn first cap) w := fun _ _ _ _ => rfl
  go_enter_defers Try.func38, Try.ntmps38
  go_wp2_with (first | (go_at_call 73; refine (sure_float _ _).mono ?_; rintro e w' ⟨o, rfl, rfl⟩) | go_in)
  refine leaves_cons (f := 72) (args := #[.pointer (some ⟨w.heap.size, 0, none⟩)]) (by simp) (by simp [go_sem]) ?_
  refine (catch_panicking ⟨w.heap.size, 0, none⟩ 0 15 _ [] _ ?_ ?_).mono ?_
  · simp [go_sem]
  · simp [go_sem]
  rintro e u' w'' ⟨rfl, rfl, rfl⟩
  simp [Leaves, settle, results, Try.results38, go_sem]
  exact ((Below.refl _ _).alloc (Nat.le_refl _) _).alloc (by simp) _
end Go.Proofs.Ytdbhhnphpjdmbaa
