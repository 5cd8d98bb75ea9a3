/- Contracts of the reference's Nest, and of leaves. Conditions: fewer than a million tokens. -/
import Derived.Test.YtdbhhnphpjdmbaaNestF
namespace Go.Proofs.Ytdbhhnphpjdmbaa
open Go.RowKit
set_option maxRecDepth 100000
set_option linter.unusedVariables false
set_option linter.unusedSimpArgs false
theorem rd_int {w : World} {A : Option Addr} {l : List Int} (h : Rd w A (icells l)) (k : Nat) (hk : k < l.length) : ∃ ad, A = some ad ∧ w.cell? (ad.add k) = some (.int .i64 (l.getD k 0)) := by
  obtain ⟨ad, rfl, hc⟩ := h (fun e => by have := congrArg List.length e; rw [icells_length] at this; simp at this; subst this; simp at hk)
  refine ⟨ad, rfl, hc k _ ?_⟩
  rw [icells_get, List.getElem?_eq_getElem hk, List.getD_eq_getElem?_getD, List.getElem?_eq_getElem hk]
  rfl
theorem sgn_of {l : List Tk} {k : Nat} {t : Tk} (h : l[k]? = some t) : sgn (signs l) k = t.sign := by
  unfold sgn signs
  rw [List.getD_eq_getElem?_getD, List.getElem?_map, h]
  rfl
set_option maxHeartbeats 1000000 in
theorem ref_leaves (w : World) (A : Option Addr) (n c tc : Nat) (T : Option Addr) (l : List Tk) (to : List Int) (at_ : Nat) (hl : l.length = n) (htl : to.length = n) (hn : n < 1000000) (hat : at_ ≤ n) (hr : Rd w A (tcells l)) (ht : Rd w T (icells to)) :
    Calls Try.prog 74 #[.slice A n c, .slice T n tc, .int .i64 (at_ : Int)] w fun e w' => e = .returned (.int .i64 (leavesOf (signs l) to at_)) ∧ w = w' := by
  have HR := Lib.hid hr
  have HT := Lib.hid ht
  have HL := Lib.hid hl
  have HTL := Lib.hid htl
  have hsl : Hid ((signs l).length = n) := by show (l.map _).length = n; rw [List.length_map]; exact hl
  clear hr ht hl htl
  go_enter Try.func74, Try.ntmps74
  go_wp2
  go_loop [7] (fun u => ∃ j : Nat, at_ ≤ j ∧ j ≤ n ∧ u = .int .i64 j ∧ Hid (leavesOf (signs l) to at_ = leavesFrom (signs l) to at_ j (n - j))) (fun u => n - (intOf u).toNat)
  case atStart => exact ⟨at_, Nat.le_refl _, hat, rfl, by show _ = _; unfold leavesOf; rw [hsl.out]⟩
  case round =>
    obtain ⟨j, hj1, hj2, rfl, HE⟩ := hrel
    by_cases hlt : j < n
    · have hg : ∃ t, l[j]? = some t := ⟨l[j]'(by rw [HL.out]; exact hlt), List.getElem?_eq_getElem _⟩
      obtain ⟨t, htk⟩ := hg
      obtain ⟨ad, rfl, q0, _, _⟩ := rd_tok HR.out j t htk
      obtain ⟨bd, rfl, p0⟩ := rd_int HT.out j (by rw [HTL.out]; exact hlt)
      have hs := Lib.hid (sgn_of htk)
      obtain ⟨m, hm⟩ : ∃ m, n - j = m + 1 := ⟨n - j - 1, by omega⟩
      have hm2 : n - (j + 1) = m := by omega
      have hstep : Hid (leavesFrom (signs l) to at_ j (n - j) = if t.sign = 93 ∧ to.getD j 0 < (at_ : Int) then (j : Int) + 1 else leavesFrom (signs l) to at_ (j + 1) (n - (j + 1))) := by
        show _ = _
        rw [hm, hm2, ← hs.out]
        rfl
      generalize to.getD j 0 = x at *
      have htk := Lib.hid htk
      have hlt2 : (j : Int) < (n : Int) := by omega
      clear hm hm2
      by_cases h93 : t.sign = 93
      · have b93 : (t.sign == 93) = true := by simpa using h93
        by_cases hx : x < (at_ : Int)
        · have hfin : Hid (leavesOf (signs l) to at_ = (j : Int) + 1) := by
            show _ = _
            rw [HE.out, hstep.out, if_pos ⟨h93, hx⟩]
          have dx : decide (x < (at_ : Int)) = true := decide_eq_true hx
          clear h93 HE hstep
          go_wp2
          go_ret
          exact ⟨by rw [hfin.out]; rfl, rfl⟩
        · have hfin : Hid (leavesOf (signs l) to at_ = leavesFrom (signs l) to at_ (j + 1) (n - (j + 1))) := by
            show _ = _
            rw [HE.out, hstep.out, if_neg (fun h => hx h.2)]
          have dx : decide (x < (at_ : Int)) = false := decide_eq_false hx
          clear h93 HE hstep
          go_wp2
          go_round
          case rel => exact ⟨j + 1, by omega, by omega, by go_num, hfin.out⟩
          case measure => simp [intOf]; omega
      · have b93 : (t.sign == 93) = false := by simpa using h93
        have hfin : Hid (leavesOf (signs l) to at_ = leavesFrom (signs l) to at_ (j + 1) (n - (j + 1))) := by
          show _ = _
          rw [HE.out, hstep.out, if_neg (fun h => h93 h.1)]
        clear h93 HE hstep
        go_wp2
        go_round
        case rel => exact ⟨j + 1, by omega, by omega, by go_num, hfin.out⟩
        case measure => simp [intOf]; omega
    · obtain rfl : j = n := by omega
      have hfin : Hid (leavesOf (signs l) to at_ = -1) := by
        show _ = _
        rw [HE.out, Nat.sub_self]
        rfl
      go_wp2
      go_ret
      exact ⟨by rw [hfin.out]; rfl, rfl⟩
/-- the reference's rows in memory -/
structure RA (w : World) (B tb tc n : Nat) (vo : Value) (R : Rs) : Prop where
  to : w.ownsRow B 3 1 (.slice (some ⟨tb, 0, none⟩) n tc) n (icells R.to)
  len : R.to.length = n
  opn : w.ownsRow B 3 1 vo R.opn.length (icells (R.opn.reverse.map Int.ofNat))
  ne : vo.ownBlock ≠ some tb
theorem RA.setTo {w : World} {B tb tc n : Nat} {vo : Value} {R : Rs} (h : RA w B tb tc n vo R) (k : Nat) (hk : k < n) (v : Int) : RA (w.setCell ⟨tb, k, none⟩ (.int .i64 v)) B tb tc n vo ⟨R.to.set k v, R.opn, R.deep⟩ := by
  refine ⟨?_, by rw [List.length_set]; exact h.len, own_other h.opn h.ne _, h.ne⟩
  have := own_set h.to k (by omega) (.int .i64 v)
  rw [icells_set] at this
  exact this
theorem RA.top {w : World} {B tb tc n : Nat} {vo : Value} {R : Rs} {t : Nat} {q : List Nat} (h : RA w B tb tc n vo R) (ho : R.opn = t :: q) : ∃ g c, vo = .slice (some ⟨g, 0, none⟩) (q.length + 1) c ∧ q.length + 1 ≤ c ∧ g ≠ tb ∧ w.cell? ⟨g, q.length, none⟩ = some (.int .i64 (t : Int)) ∧ w.frozen? ⟨g, q.length, none⟩ = false := by
  have hop := h.opn
  rw [ho] at hop
  obtain ⟨A, c, rfl⟩ := own_form hop
  obtain ⟨g, rfl, _, _⟩ := own_some hop (by simp)
  refine ⟨g, c, rfl, ?_, fun e => h.ne (by rw [e]; rfl), own_cell hop q.length _ ?_, own_free hop _⟩
  · rcases hop.2 with ⟨h1, _⟩ | ⟨_, _, _, h1, _, _, h2, _⟩
    · cases h1
    · cases h1; simpa using h2
  · rw [icells_get, List.getElem?_map, List.reverse_cons, List.getElem?_append_right (by simp)]
    simp
theorem RA.pop {w : World} {B tb tc n g c : Nat} {R : Rs} {t : Nat} {q : List Nat} (h : RA w B tb tc n (.slice (some ⟨g, 0, none⟩) (q.length + 1) c) R) (ho : R.opn = t :: q) : RA w B tb tc n (.slice (some ⟨g, 0, none⟩) q.length c) ⟨R.to, q, R.deep⟩ := by
  refine ⟨h.to, h.len, ?_, h.ne⟩
  have hop := h.opn
  rw [ho, List.reverse_cons, List.map_append, icells_append, List.length_cons] at hop
  exact ownsRow_pop (by rw [icells_length]; simp) hop
theorem RA.setTop {w : World} {B tb tc n g c : Nat} {R : Rs} {t : Nat} {q : List Nat} (h : RA w B tb tc n (.slice (some ⟨g, 0, none⟩) (q.length + 1) c) R) (ho : R.opn = t :: q) (i : Nat) : RA (w.setCell ⟨g, q.length, none⟩ (.int .i64 (i : Int))) B tb tc n (.slice (some ⟨g, 0, none⟩) (q.length + 1) c) ⟨R.to, i :: q, R.deep⟩ := by
  refine ⟨own_other h.to (fun e => h.ne (by rw [show (Value.slice (some ⟨g, 0, none⟩) (q.length + 1) c).ownBlock = some g from rfl]; simp only [Value.ownBlock] at e; exact e.symm)) _, h.len, ?_, h.ne⟩
  have hop := h.opn
  rw [ho] at hop
  have := own_set hop q.length (by simp) (.int .i64 (i : Int))
  rw [icells_set] at this
  have e : (List.map Int.ofNat (t :: q).reverse).set q.length (i : Int) = List.map Int.ofNat (i :: q).reverse := by
    rw [List.reverse_cons, List.reverse_cons, List.map_append, List.map_append, List.set_append_right _ _ (by simp)]
    simp
  rw [e] at this
  exact this
end Go.Proofs.Ytdbhhnphpjdmbaa
