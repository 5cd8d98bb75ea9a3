/- Contract of the reference's Nest. Conditions: fewer than a million tokens. -/
import Derived.Test.YtdbhhnphpjdmbaaNestRef
import Derived.Deep.DeepCutAuto
import Derived.Deep.RegionHeld3
namespace Go.Proofs.Ytdbhhnphpjdmbaa
open Go.RowKit
set_option maxRecDepth 100000
set_option linter.unusedVariables false
set_option linter.unusedSimpArgs false
/-- where the reference stands behind k tokens -/
structure RAt (l : List Int) (k : Nat) (R : Rs) : Prop where
  run : Rs.run l ⟨List.replicate l.length 0, [], 0⟩ 0 (l.take k) = some R
  small : R.opn.length ≤ R.deep ∧ R.deep ≤ 16
  lt : ∀ t ∈ R.opn, t < k
theorem rrun_append (l : List Int) : ∀ (a b : List Int) (r : Rs) (i : Nat), Rs.run l r i (a ++ b) = (Rs.run l r i a).bind fun q => Rs.run l q (i + a.length) b
  | [], b, r, i => rfl
  | s :: a, b, r, i => by
    show (r.step l i s).bind _ = ((r.step l i s).bind _).bind _
    cases r.step l i s with
    | none => rfl
    | some r1 =>
      show Rs.run l r1 (i + 1) (a ++ b) = (Rs.run l r1 (i + 1) a).bind _
      rw [rrun_append l a b r1 (i + 1), List.length_cons, show i + 1 + a.length = i + (a.length + 1) by omega]
theorem RAt.next {l : List Int} {k : Nat} {R R' : Rs} (h : RAt l k R) (hk : k < l.length) (hs : R.step l k (sgn l k) = some R') : RAt l (k + 1) R' := by
  refine ⟨?_, ?_, ?_⟩
  · have hg : l[k]? = some (sgn l k) := by unfold sgn; rw [List.getD_eq_getElem?_getD, List.getElem?_eq_getElem hk]; rfl
    rw [take_snoc' l k _ hg, rrun_append, h.run]
    simp only [Option.bind_some, Rs.run]
    rw [List.length_take, show 0 + min k l.length = k by omega, hs]
    rfl
  · obtain ⟨h1, h2⟩ := h.small
    unfold Rs.step at hs
    repeat' split at hs
    all_goals try cases hs
    all_goals first
      | exact ⟨h1, h2⟩
      | (rename_i ho _; rw [ho, List.length_cons] at h1; exact ⟨by simpa using h1, h2⟩)
      | (rename_i ho _; rw [ho, List.length_cons] at h1; exact ⟨Nat.le_trans (Nat.le_succ _) h1, h2⟩)
      | (constructor <;> simp <;> omega)
  · have h3 := h.lt
    unfold Rs.step at hs
    repeat' split at hs
    all_goals try cases hs
    all_goals intro t ht
    all_goals first
      | (have := h3 t ht; omega)
      | (rcases List.mem_cons.1 ht with rfl | ht
         · omega
         · have := h3 t ht
           omega)
      | (rename_i ho _
         rcases List.mem_cons.1 ht with rfl | ht
         · omega
         · have := h3 t (by rw [ho]; exact List.mem_cons_of_mem _ ht)
           omega)
      | (rename_i ho _
         have := h3 t (by rw [ho]; exact List.mem_cons_of_mem _ ht)
         omega)
theorem RAt.stop {l : List Int} {k : Nat} {R : Rs} (h : RAt l k R) (hk : k < l.length) (hs : R.step l k (sgn l k) = none) : nestRef l = none := by
  have e : l = l.take k ++ sgn l k :: l.drop (k + 1) := by
    have hg : l[k] = sgn l k := by unfold sgn; rw [List.getD_eq_getElem?_getD, List.getElem?_eq_getElem hk]; rfl
    rw [← hg, List.getElem_cons_drop, List.take_append_drop]
  have hr : Rs.run l ⟨List.replicate l.length 0, [], 0⟩ 0 l = none := by
    conv => lhs; arg 4; rw [e]
    rw [rrun_append, h.run]
    simp only [Option.bind_some, Rs.run]
    rw [List.length_take, show 0 + min k l.length = k by omega, hs]
    rfl
  unfold nestRef
  rw [hr]
theorem RAt.full {l : List Int} {R : Rs} (h : RAt l l.length R) : nestRef l = if R.opn = [] then (tildes l R.to 0 l.length).map fun t' => (t', R.deep) else none := by
  have := h.run
  rw [List.take_of_length_le (Nat.le_refl _)] at this
  unfold nestRef
  rw [this]
theorem RAt.zero (l : List Int) : RAt l 0 ⟨List.replicate l.length 0, [], 0⟩ := ⟨rfl, ⟨Nat.le_refl _, by simp⟩, by simp⟩
/-- the answers of the reference's Nest -/
def NestAns (w : World) (n : Nat) (S : List Int) (e : Ending) (w' : World) : Prop :=
  Below w.heap.size w w' ∧ ((nestRef S = none ∧ e = .returned (.tuple #[.slice none 0 0, .int .i64 (-1), .int .i64 13])) ∨ ∃ p g c', nestRef S = some p ∧ e = .returned (.tuple #[.slice (some ⟨g, 0, none⟩) n c', .int .i64 (p.2 : Int), .int .i64 0]) ∧ w'.ownsRow w.heap.size 3 1 (.slice (some ⟨g, 0, none⟩) n c') n (icells p.1))
theorem NestAns.no {w w' : World} {n : Nat} {S : List Int} (h : nestRef S = none) (hb : Below w.heap.size w w') : NestAns w n S (.returned (.tuple #[.slice none 0 0, .int .i64 (-1), .int .i64 13])) w' := ⟨hb, .inl ⟨h, rfl⟩⟩
theorem RA.drew {w : World} {B tb tc n : Nat} {vo : Value} {R : Rs} (h : RA w B tb tc n vo R) : RA w.drew B tb tc n vo R := ⟨h.to, h.len, h.opn, h.ne⟩
theorem RA.push {w w1 : World} {B tb tc n m c g1 c1 : Nat} {A : Option Addr} {R : Rs} (h : RA w B tb tc n (.slice A m c) R) (k d : Nat) (hm : m = R.opn.length)
    (ho : w1.ownsRow B 3 1 (.slice (some ⟨g1, 0, none⟩) (m + 1) c1) (m + 1) (icells (R.opn.reverse.map Int.ofNat) ++ [.int .i64 (k : Int)])) (hg : w.grownBy w1 (Value.slice A m c).ownBlock) (hat : (Value.slice A m c).ownBlock = some g1 ∨ w.heap.size ≤ g1) :
    RA w1 B tb tc n (.slice (some ⟨g1, 0, none⟩) (m + 1) c1) ⟨R.to, k :: R.opn, d⟩ := by
  refine ⟨h.to.kept hg (.inr (fun e => h.ne e.symm)), h.len, ?_, ?_⟩
  · have e : icells ((k :: R.opn).reverse.map Int.ofNat) = icells (R.opn.reverse.map Int.ofNat) ++ [.int .i64 (k : Int)] := by
      rw [List.reverse_cons, List.map_append, icells_append]
      rfl
    show w1.ownsRow _ _ _ _ (k :: R.opn).length (icells ((k :: R.opn).reverse.map Int.ofNat))
    rw [e, List.length_cons, ← hm]
    exact ho
  · intro e
    have e : g1 = tb := by simpa [Value.ownBlock] using e
    rcases hat with h1 | h1
    · exact h.ne (by rw [h1, e])
    · have := (h.to.lt tb rfl).2
      omega
set_option maxHeartbeats 8000000 in
theorem ref_Nest (w : World) (A : Option Addr) (n c : Nat) (l : List Tk) (hl : l.length = n) (hn : n < 1000000) (hr : Rd w A (tcells l)) :
    Calls Try.prog 39 #[.slice A n c] w (NestAns w n (signs l)) := by
  have HR := Lib.hid hr
  have HL := Lib.hid hl
  have hsl : Hid ((signs l).length = n) := by show (l.map _).length = n; rw [List.length_map]; exact hl
  have hmk : ∀ W : World, (Instr.makeSlice 38 (.int .i64 (n : Int)) (.int .i64 (n : Int))).run Try.prog W = .ok (.slice (some ⟨W.heap.size, 0, none⟩) n n) (W.alloc (.cells (madeCells (Value.int .i64 0).cells n) 3)) := fun W => by
    obtain ⟨i, hi, hz0, hsz, hby⟩ := info_parts infoInt
    have h := run_makeSlice (P := Try.prog) (w := W) 38 3 i _ Try.underlying38 hi hz0 .i64 .i64 (n : Int) (n : Int) (by omega) (by omega) (by rw [hsz]; simp; omega) (by rw [hby]; omega) (by omega)
    rw [h, hsz]
    simp
  clear hr hl
  go_enter Try.func39, Try.ntmps39
  go_wp2
  obtain ⟨B, hB⟩ : ∃ B, B = w.heap.size := ⟨_, rfl⟩
  obtain ⟨W1, hW1⟩ : ∃ W1, W1 = (w.alloc (.cells (madeCells #[.int .i64 0] n) 3)) := ⟨_, rfl⟩
  rw [← hW1]
  have h0 : W1.heap[w.heap.size]? = some (.cells (madeCells #[.int .i64 0] n) 3) := by rw [hW1]; exact heap_alloc_new w _
  have HB1 : Hid (Below B w W1) := by
    show Below _ _ _
    rw [hW1, hB]
    exact (Below.refl _ _).alloc (Nat.le_refl _) _
  have HR1 : Hid (∀ W', Below B w W' → Rd W' A (tcells l)) := fun W' hb => HR.out.below (by rw [← hB]; exact hb)
  have hto : (icells (List.replicate n 0)) = (madeCells #[.int .i64 0] n).toList := by
    rw [toList_madeCells_one]
    simp [icells]
  have HM1 : Hid (RA W1 B B n n (.slice none 0 0) ⟨List.replicate (signs l).length 0, [], 0⟩) := by
    rw [hsl.out]
    refine ⟨?_, by simp, World.ownsRow_nil _ _ _ _, by simp [Value.ownBlock]⟩
    refine ⟨by rw [icells_length]; simp, .inr ⟨B, n, madeCells #[.int .i64 0] n, rfl, Nat.le_refl _, by rw [hB]; exact h0, Nat.le_refl _, by unfold maxLen; omega, ?_, ?_⟩⟩
    · rw [← Array.length_toList, ← hto, icells_length]; simp
    · rw [← hto, List.take_of_length_le (by rw [icells_length]; simp)]
  have HSZ : Hid (B ≤ w.heap.size) := by show B ≤ _; omega
  have HEQ := Lib.hid hB
  rw [← hB]
  clear h0 hto hW1 hmk hB
  go_loopw [6, 7, 8, 15] (fun vo ud _ u wr => ∃ (k : Nat) (R : Rs), k ≤ n ∧ u = .int .i64 k ∧ ud = .int .i64 (R.deep : Int) ∧ Hid (RAt (signs l) k R) ∧ Hid (RA wr B B n n vo R) ∧ Hid (Below B w wr)) (fun _ _ _ u _ => n - (intOf u).toNat)
  case atStart => exact ⟨0, _, Nat.zero_le _, rfl, rfl, RAt.zero _, HM1.out, HB1.out⟩
  case round =>
    obtain ⟨k, R, hk, rfl, rfl, HA, HM, HB2⟩ := hrel
    have hsz : B ≤ wr.heap.size := by
      have h1 := HB2.out.size
      have h2 := HSZ.out
      omega
    clear HM1 HB1
    by_cases hlt : k < n
    · have hg : ∃ t, l[k]? = some t := ⟨l[k]'(by rw [HL.out]; exact hlt), List.getElem?_eq_getElem _⟩
      obtain ⟨t, ht⟩ := hg
      have hss := Lib.hid (sgn_of ht)
      have hlt2 : (k : Int) < (n : Int) := by omega
      -- the world behind to[i] = -1
      have HM2 := HM.out.setTo k hlt (-1)
      have HB3 := HB2.out.setCell (Nat.le_refl B) (p := ⟨B, k, none⟩) (.int .i64 (-1))
      have q9 := HR1.out _ HB3
      obtain ⟨x, t0, tf⟩ := to_cell (by have := HM.out.to; rw [← HM.out.len] at this; exact this) k (by rw [HM.out.len]; exact hlt)
      obtain ⟨ad, rfl, q0, _, _⟩ := rd_tok q9 k t ht
      have ht := Lib.hid ht
      obtain ⟨W2, hW2⟩ : ∃ W2, W2 = wr.setCell ⟨B, k, none⟩ (.int .i64 (-1)) := ⟨_, rfl⟩
      rw [← hW2] at HM2 HB3 q9 q0
      have hsz2 : B ≤ W2.heap.size := by
        have h1 := HB3.size
        have h2 := HSZ.out
        omega
      have HR2 := Lib.hid q9
      have HB3 := Lib.hid HB3
      clear q9
      have hstp : ∀ R', R.step (signs l) k t.sign = R' → R.step (signs l) k (sgn (signs l) k) = R' := fun R' h => by rw [hss.out]; exact h
      have hlk : k < (signs l).length := by rw [hsl.out]; exact hlt
      have Hlk := Lib.hid hlk
      have Hstp := Lib.hid hstp
      clear hlk hstp
      go_upto_region 8 with fail
      rw [← hW2]
      clear hW2 t0 tf
      have h16 := HA.out.small
      have hdp : R.deep ≤ 16 := h16.2
      obtain ⟨m, hm⟩ : ∃ m, m = R.opn.length := ⟨_, rfl⟩
      have hdl : m ≤ 16 := by omega
      clear h16
      have ho6 := HM2.opn
      rw [← hm] at ho6
      obtain ⟨A6, c6, rfl⟩ := own_form ho6
      clear ho6
      by_cases hP : t.sign = 63 ∨ t.sign = 91
      · have hE : Hid (R.step (signs l) k t.sign = if R.opn.length < 16 then some ⟨R.to.set k (-1), k :: R.opn, max R.deep (R.opn.length + 1)⟩ else none) := by
          show _ = _
          unfold Rs.step
          rw [if_pos hP]
        have HO : Hid (W2.ownsRow B 3 1 (.slice A6 m c6) m (icells (R.opn.reverse.map Int.ofNat))) := by
          have := HM2.opn
          rw [← hm] at this
          exact this
        have Hm := Lib.hid hm
        have HM2 := Lib.hid HM2
        have hmax : ∀ W : World, (Builtin.max_ #[3, 3] 3 #[.int .i64 (R.deep : Int), .int .i64 ((m : Int) + 1)]).run Try.prog W = .ok (.int .i64 ((max R.deep (m + 1) : Nat) : Int)) W := fun W => run_max _ _ _ _ _ _ (by split <;> omega) W
        clear hm
        have hB : (t.sign == 63) = true ∨ ((t.sign == 63) = false ∧ (t.sign == 91) = true) := by
          rcases hP with h | h
          · left; simpa using h
          · right; rw [h]; decide
        clear hP
        rcases hB with b63 | ⟨b63, b91⟩
        all_goals
          go_wp2_with (first
            | (at_builtin; refine ev_append1 B rfl (.tmp 29) (.tmp 31) 38 3 _ 1 8 rfl Try.underlying38 infoInt rfl (by decide) (by decide) (.slice A6 m c6) m (icells (R.opn.reverse.map Int.ofNat)) [.int .i64 (k : Int)] rfl rfl rfl (by simp [Value.oneCell']) HO.out hsz2 (by omega) ?_)
            | go_in)
          intro g1 c1 w3 ho hg hat
          have HM4 := Lib.hid (HM2.out.push k (max R.deep (m + 1)) Hm.out (by rw [List.map_reverse]; exact ho) hg hat)
          have HB4 : Hid (Below B w w3) := (HB3.out).grown hg hsz2 (fun q hq => (HO.out.lt q hq).1)
          clear ho hg hat
          by_cases hm16 : 16 < m + 1
          · have d16 : decide ((16 : Int) < (m : Int) + 1) = true := decide_eq_true (by omega)
            have hno : Hid (nestRef (signs l) = none) := HA.out.stop Hlk.out (Hstp.out _ (by rw [hE.out, if_neg (by have := Hm.out; omega)]))
            go_wp2
            go_ret3
            exact NestAns.no hno.out (by rw [← HEQ.out]; exact HB4.out)
          · have d16 : decide ((16 : Int) < (m : Int) + 1) = false := decide_eq_false (by omega)
            have HA4 : Hid (RAt (signs l) (k + 1) ⟨R.to.set k (-1), k :: R.opn, max R.deep (m + 1)⟩) := HA.out.next Hlk.out (Hstp.out _ (by rw [hE.out, if_pos (by have := Hm.out; omega), ← Hm.out]))
            go_wp2
            go_roundw
            case rel => exact ⟨k + 1, _, by omega, by go_num, rfl, HA4, HM4, HB4⟩
            case measure => simp [intOf]; omega
      · have nP63 : (t.sign == 63) = false := by simpa using fun h => hP (.inl h)
        have nP91 : (t.sign == 91) = false := by simpa using fun h => hP (.inr h)
        have hE : Hid (R.step (signs l) k t.sign = if t.sign = 58 then (match R.opn with
            | [] => none
            | t' :: q => if sgn (signs l) t' = 63 then some ⟨(R.to.set k (-1)).set t' ((k : Int) + 1), k :: q, R.deep⟩ else none)
          else if t.sign = 59 then (match R.opn with
            | [] => none
            | t' :: q => if sgn (signs l) t' = 91 then none else some ⟨(R.to.set k (-1)).set t' (k : Int), q, R.deep⟩)
          else if t.sign = 93 then (match R.opn with
            | [] => none
            | t' :: q => if sgn (signs l) t' = 91 then some ⟨(R.to.set k (-1)).set k (t' : Int), q, R.deep⟩ else none)
          else some ⟨R.to.set k (-1), R.opn, R.deep⟩) := by
          show _ = _
          unfold Rs.step
          rw [if_neg hP]
          rfl
        clear hP
        by_cases hC : t.sign = 58 ∨ t.sign = 59 ∨ t.sign = 93
        · cases hop : R.opn with
          | nil =>
            have hz : m = 0 := by rw [hm, hop]; rfl
            subst hz
            have hno : Hid (nestRef (signs l) = none) := HA.out.stop Hlk.out (Hstp.out _ (by
              rw [hE.out, hop]
              rcases hC with h | h | h
              all_goals simp [h]))
            have hC : Hid (t.sign = 58 ∨ t.sign = 59 ∨ t.sign = 93) := hC
            have hB : (t.sign == 58) = true ∨ ((t.sign == 58) = false ∧ (t.sign == 59) = true) ∨ ((t.sign == 58) = false ∧ (t.sign == 59) = false ∧ (t.sign == 93) = true) := by
              rcases hC.out with h | h | h
              all_goals rw [h]; decide
            clear hop hE hm HM2
            rcases hB with b58 | ⟨b58, b59⟩ | ⟨b58, b59, b93⟩
            all_goals
              go_wp2
              go_ret3
              exact NestAns.no hno.out (by rw [← HEQ.out]; exact HB3.out)
          | cons t' q =>
            obtain ⟨g, c7, e1, hcap, hgB, k0, kf⟩ := HM2.top hop
            obtain ⟨mq, hmq⟩ : ∃ mq, mq = q.length := ⟨_, rfl⟩
            rw [← hmq] at e1 hcap k0 kf
            injection e1 with e1a e1b e1c
            subst e1a e1c
            subst e1b
            have htk : t' < k := HA.out.lt t' (by rw [hop]; exact List.mem_cons_self ..)
            have htn : t' < n := by omega
            have htni : (t' : Int) < (n : Int) := by omega
            have hg' : ∃ s, l[t']? = some s := ⟨l[t']'(by rw [HL.out]; exact htn), List.getElem?_eq_getElem _⟩
            obtain ⟨s, hs⟩ := hg'
            obtain ⟨ad', e', p0, _, _⟩ := rd_tok HR2.out t' s hs
            cases e'
            have hss' := Lib.hid (sgn_of hs)
            have hs := Lib.hid hs
            have Hop := Lib.hid hop
            have hgB := Lib.hid hgB
            have hE : Hid (R.step (signs l) k t.sign = if t.sign = 58 then (if s.sign = 63 then some ⟨(R.to.set k (-1)).set t' ((k : Int) + 1), k :: q, R.deep⟩ else none)
              else if t.sign = 59 then (if s.sign = 91 then none else some ⟨(R.to.set k (-1)).set t' (k : Int), q, R.deep⟩)
              else if t.sign = 93 then (if s.sign = 91 then some ⟨(R.to.set k (-1)).set k (t' : Int), q, R.deep⟩ else none)
              else some ⟨R.to.set k (-1), R.opn, R.deep⟩) := by
              show _ = _
              rw [hE.out, hop]
              simp only [hss'.out]
            obtain ⟨x1, k1, k1f⟩ := to_cell (by have := HM2.to; rw [← HM2.len] at this; exact this) t' (by rw [HM2.len]; exact htn)
            obtain ⟨x2, k2, k2f⟩ := to_cell (by have := HM2.to; rw [← HM2.len] at this; exact this) k (by rw [HM2.len]; exact hlt)
            have hz : decide ((mq : Int) + 1 = 0) = false := decide_eq_false (by omega)
            have Hmq := Lib.hid hmq
            have HM2 := Lib.hid HM2
            clear hop hm hmq
            by_cases h58 : t.sign = 58
            · have b58 : (t.sign == 58) = true := by simpa using h58
              by_cases h63 : s.sign = 63
              · have b63 : (s.sign == 63) = true := by simpa using h63
                have n63 : (s.sign != 63) = false := by simpa using h63
                have hE : Hid (R.step (signs l) k t.sign = some ⟨(R.to.set k (-1)).set t' ((k : Int) + 1), k :: q, R.deep⟩) := by
                  show _ = _
                  rw [hE.out, if_pos h58, if_pos h63]
                have HA4 := HA.out.next Hlk.out (Hstp.out _ hE.out)
                have hge := (HM2.out.opn.lt g rfl).1
                have HM4 : Hid (RA ((W2.setCell ⟨B, t', none⟩ (.int .i64 ((k : Int) + 1))).setCell ⟨g, mq, none⟩ (.int .i64 (k : Int))) B B n n (.slice (some ⟨g, 0, none⟩) (mq + 1) c6) ⟨(R.to.set k (-1)).set t' ((k : Int) + 1), k :: q, R.deep⟩) := by
                  have e := Hmq.out
                  subst e
                  exact (HM2.out.setTo t' htn _).setTop Hop.out k
                have HB4 : Hid (Below B w ((W2.setCell ⟨B, t', none⟩ (.int .i64 ((k : Int) + 1))).setCell ⟨g, mq, none⟩ (.int .i64 (k : Int)))) := (HB3.out.setCell (p := ⟨B, t', none⟩) (Nat.le_refl B) _).setCell (p := ⟨g, mq, none⟩) hge _
                have HA4 := Lib.hid HA4
                clear h58 h63 hC hge
                go_wp2
                go_roundw
                case rel => exact ⟨k + 1, ⟨(R.to.set k (-1)).set t' ((k : Int) + 1), k :: q, R.deep⟩, by omega, by go_num, rfl, HA4, HM4, HB4⟩
                case measure => simp [intOf]; omega
              · have b63 : (s.sign == 63) = false := by simpa using h63
                have n63 : (s.sign != 63) = true := by simpa using h63
                have hno : Hid (nestRef (signs l) = none) := HA.out.stop Hlk.out (Hstp.out _ (by rw [hE.out, if_pos h58, if_neg h63]))
                clear h58 h63 hC hE
                go_wp2
                go_ret3
                exact NestAns.no hno.out (by rw [← HEQ.out]; exact HB3.out)
            · have b58 : (t.sign == 58) = false := by simpa using h58
              have hsl2 := slice_to (P := Try.prog) 38 3 .i64 Try.underlying38 infoInt (some ⟨g, 0, none⟩) (mq + 1) c6 mq (by omega)
              have hlm : 0 ≤ (mq : Int) := by omega
              by_cases h59 : t.sign = 59
              · have b59 : (t.sign == 59) = true := by simpa using h59
                by_cases h91 : s.sign = 91
                · have b91 : (s.sign == 91) = true := by simpa using h91
                  have n91 : (s.sign != 91) = false := by simpa using h91
                  have hno : Hid (nestRef (signs l) = none) := HA.out.stop Hlk.out (Hstp.out _ (by rw [hE.out, if_neg h58, if_pos h59, if_pos h91]))
                  clear h58 h59 h91 hC hE
                  go_wp2
                  go_ret3
                  exact NestAns.no hno.out (by rw [← HEQ.out]; exact HB3.out)
                · have b91 : (s.sign == 91) = false := by simpa using h91
                  have n91 : (s.sign != 91) = true := by simpa using h91
                  have hE : Hid (R.step (signs l) k t.sign = some ⟨(R.to.set k (-1)).set t' (k : Int), q, R.deep⟩) := by
                    show _ = _
                    rw [hE.out, if_neg h58, if_pos h59, if_neg h91]
                  have HA4 := Lib.hid (HA.out.next Hlk.out (Hstp.out _ hE.out))
                  have HM4 : Hid (RA (W2.setCell ⟨B, t', none⟩ (.int .i64 (k : Int))) B B n n (.slice (some ⟨g, 0, none⟩) mq c6) ⟨(R.to.set k (-1)).set t' (k : Int), q, R.deep⟩) := by
                    have e := Hmq.out
                    subst e
                    exact (HM2.out.setTo t' htn _).pop Hop.out
                  have HB4 : Hid (Below B w (W2.setCell ⟨B, t', none⟩ (.int .i64 (k : Int)))) := HB3.out.setCell (p := ⟨B, t', none⟩) (Nat.le_refl B) _
                  clear h58 h59 h91 hC hE
                  go_wp2
                  go_roundw
                  case rel => exact ⟨k + 1, ⟨(R.to.set k (-1)).set t' (k : Int), q, R.deep⟩, by omega, by go_num, rfl, HA4, HM4, HB4⟩
                  case measure => simp [intOf]; omega
              · have b59 : (t.sign == 59) = false := by simpa using h59
                have h93 : t.sign = 93 := by
                  rcases hC with h | h | h
                  · exact absurd h h58
                  · exact absurd h h59
                  · exact h
                have b93 : (t.sign == 93) = true := by simpa using h93
                by_cases h91 : s.sign = 91
                · have b91 : (s.sign == 91) = true := by simpa using h91
                  have n91 : (s.sign != 91) = false := by simpa using h91
                  have hE : Hid (R.step (signs l) k t.sign = some ⟨(R.to.set k (-1)).set k (t' : Int), q, R.deep⟩) := by
                    show _ = _
                    rw [hE.out, if_neg h58, if_neg h59, if_pos h93, if_pos h91]
                  have HA4 := Lib.hid (HA.out.next Hlk.out (Hstp.out _ hE.out))
                  have HM4 : Hid (RA (W2.setCell ⟨B, k, none⟩ (.int .i64 (t' : Int))) B B n n (.slice (some ⟨g, 0, none⟩) mq c6) ⟨(R.to.set k (-1)).set k (t' : Int), q, R.deep⟩) := by
                    have e := Hmq.out
                    subst e
                    exact (HM2.out.setTo k hlt _).pop Hop.out
                  have HB4 : Hid (Below B w (W2.setCell ⟨B, k, none⟩ (.int .i64 (t' : Int)))) := HB3.out.setCell (p := ⟨B, k, none⟩) (Nat.le_refl B) _
                  clear h58 h59 h91 h93 hC hE
                  go_wp2
                  go_roundw
                  case rel => exact ⟨k + 1, ⟨(R.to.set k (-1)).set k (t' : Int), q, R.deep⟩, by omega, by go_num, rfl, HA4, HM4, HB4⟩
                  case measure => simp [intOf]; omega
                · have b91 : (s.sign == 91) = false := by simpa using h91
                  have n91 : (s.sign != 91) = true := by simpa using h91
                  have hno : Hid (nestRef (signs l) = none) := HA.out.stop Hlk.out (Hstp.out _ (by rw [hE.out, if_neg h58, if_neg h59, if_pos h93, if_neg h91]))
                  clear h58 h59 h91 h93 hC hE
                  go_wp2
                  go_ret3
                  exact NestAns.no hno.out (by rw [← HEQ.out]; exact HB3.out)
        · have b58 : (t.sign == 58) = false := by simpa using fun h => hC (.inl h)
          have b59 : (t.sign == 59) = false := by simpa using fun h => hC (.inr (.inl h))
          have b93 : (t.sign == 93) = false := by simpa using fun h => hC (.inr (.inr h))
          have HA4 : Hid (RAt (signs l) (k + 1) ⟨R.to.set k (-1), R.opn, R.deep⟩) := HA.out.next Hlk.out (Hstp.out _ (by rw [hE.out, if_neg (fun h => hC (.inl h)), if_neg (fun h => hC (.inr (.inl h))), if_neg (fun h => hC (.inr (.inr h)))]))
          have HM2 := Lib.hid HM2
          clear hC hE
          go_wp2
          go_roundw
          case rel => exact ⟨k + 1, ⟨R.to.set k (-1), R.opn, R.deep⟩, by omega, by go_num, rfl, HA4, HM2, HB3⟩
          case measure => simp [intOf]; omega
    · obtain rfl : n = k := by omega
      have HF : Hid (nestRef (signs l) = if R.opn = [] then (tildes (signs l) R.to 0 n).map fun t' => (t', R.deep) else none) := by
        have h1 := HA.out
        rw [← hsl.out] at h1
        have h2 := h1.full
        rw [hsl.out] at h2
        exact h2
      have HM0 := HM.out
      have hgo := own_form HM0.opn
      obtain ⟨A6, c6, e6⟩ := hgo
      obtain ⟨m, hm⟩ : ∃ m, m = R.opn.length := ⟨_, rfl⟩
      rw [← hm] at e6
      subst e6
      by_cases hz : R.opn = []
      · have hF : Hid (nestRef (signs l) = (tildes (signs l) R.to 0 n).map fun t' => (t', R.deep)) := by
          show _ = _
          rw [HF.out, if_pos hz]
        have hm0 : m = 0 := by rw [hm, hz]; rfl
        subst hm0
        have HM0 := Lib.hid HM0
        clear HF hz hm HA
        go_upto_region 34 with fail
        go_loopw [9, 144] (fun _ u wr => ∃ (j : Nat) (T : List Int), j ≤ n ∧ u = .int .i64 j ∧ Hid (tildes (signs l) R.to 0 n = tildes (signs l) T j (n - j)) ∧ Hid (RA wr B B n n (.slice A6 0 c6) ⟨T, R.opn, R.deep⟩) ∧ Hid (Below B w wr)) (fun _ u _ => n - (intOf u).toNat)
        case atStart => exact ⟨0, R.to, Nat.zero_le _, rfl, by show _ = _; rw [Nat.sub_zero], HM0.out, HB2.out⟩
        case round =>
          obtain ⟨j, T, hj, rfl, HT, HQ, HBq⟩ := hrel
          by_cases hjn : j < n
          · have hg : ∃ t, l[j]? = some t := ⟨l[j]'(by rw [HL.out]; exact hjn), List.getElem?_eq_getElem _⟩
            obtain ⟨t, ht⟩ := hg
            have hss := Lib.hid (sgn_of ht)
            have hjn2 : (j : Int) < (n : Int) := by omega
            have q9 := HR1.out _ HBq.out
            obtain ⟨ad, rfl, q0, _, _⟩ := rd_tok q9 j t ht
            obtain ⟨m, hm⟩ : ∃ m, n - j = m + 1 := ⟨n - j - 1, by omega⟩
            have hm2 : n - (j + 1) = m := by omega
            have hstep : Hid (tildes (signs l) R.to 0 n = if t.sign = 126 then (if leavesOf (signs l) T j < 0 then none else tildes (signs l) (T.set j (leavesOf (signs l) T j)) (j + 1) (n - (j + 1))) else tildes (signs l) T (j + 1) (n - (j + 1))) := by
              show _ = _
              rw [HT.out, hm, hm2, ← hss.out]
              rfl
            have HQt : RA wr B B n n (.slice A6 0 c6) ⟨T, R.opn, R.deep⟩ := HQ.out
            have hTl : T.length = n := HQt.len
            have hlv := Lib.hid (ref_leaves wr (some ad) n c n (some ⟨B, 0, none⟩) l T j HL.out hTl hn (by omega) q9 (own_rd HQt.to))
            obtain ⟨x1, k1, k1f⟩ := to_cell (by have := HQt.to; rw [← hTl] at this; exact this) j (by rw [hTl]; exact hjn)
            have ht := Lib.hid ht
            clear hm hm2 HT hss hTl HQt q9
            by_cases h126 : t.sign = 126
            · have b126 : (t.sign == 126) = true := by simpa using h126
              generalize leavesOf (signs l) T j = v at *
              have HQ2 := Lib.hid (HQ.out.setTo j hjn v)
              have HB2 := Lib.hid (HBq.out.setCell (p := ⟨B, j, none⟩) (Nat.le_refl B) (.int .i64 v))
              have k2 : (wr.setCell ⟨B, j, none⟩ (.int .i64 v)).cell? ⟨B, j, none⟩ = some (.int .i64 v) := by
                refine own_cell HQ2.out.to j _ ?_
                rw [icells_get]
                have : j < T.length := by have := HQ.out.len; simp at this; omega
                simp [this]
              by_cases hv : v < 0
              · have dv : decide (v < 0) = true := decide_eq_true hv
                have hno : Hid (nestRef (signs l) = none) := by
                  show _ = _
                  rw [hF.out, hstep.out, if_pos h126, if_pos hv]
                  rfl
                clear h126 hv hstep
                go_wp2_with (fail)
                refine hlv.out.mono ?_
                rintro e w' ⟨rfl, rfl⟩
                go_wp2
                go_ret3
                exact NestAns.no hno.out (by rw [← HEQ.out]; exact HB2.out)
              · have dv : decide (v < 0) = false := decide_eq_false hv
                have hstep : Hid (tildes (signs l) R.to 0 n = tildes (signs l) (T.set j v) (j + 1) (n - (j + 1))) := by
                  show _ = _
                  rw [hstep.out, if_pos h126, if_neg hv]
                clear h126 hv
                go_wp2_with (fail)
                refine hlv.out.mono ?_
                rintro e w' ⟨rfl, rfl⟩
                go_wp2
                go_roundw
                case rel => exact ⟨j + 1, T.set j v, by omega, by go_num, hstep, HQ2, HB2⟩
                case measure => simp [intOf]; omega
            · have b126 : (t.sign == 126) = false := by simpa using h126
              have hstep : Hid (tildes (signs l) R.to 0 n = tildes (signs l) T (j + 1) (n - (j + 1))) := by
                show _ = _
                rw [hstep.out, if_neg h126]
              clear h126 hlv
              go_wp2
              go_roundw
              case rel => exact ⟨j + 1, T, by omega, by go_num, hstep, HQ, HBq⟩
              case measure => simp [intOf]; omega
          · obtain rfl : n = j := by omega
            have hfin : Hid (nestRef (signs l) = some (T, R.deep)) := by
              show _ = _
              rw [hF.out, HT.out, Nat.sub_self]
              rfl
            clear HT hF
            go_wp2
            go_ret3
            exact ⟨by rw [← HEQ.out]; exact HBq.out, .inr ⟨_, B, n, hfin.out, rfl, by rw [← HEQ.out]; exact HQ.out.to⟩⟩
      · have hno : Hid (nestRef (signs l) = none) := by
          show _ = _
          rw [HF.out, if_neg hz]
        have hmp : 0 < (m : Int) := by
          have : R.opn.length ≠ 0 := fun e => hz (List.eq_nil_of_length_eq_zero e)
          omega
        have hmd : decide ((m : Int) > 0) = true := decide_eq_true hmp
        clear hz hm HM0
        go_wp2
        go_ret3
        exact NestAns.no hno.out (by rw [← HEQ.out]; exact HB2.out)
end Go.Proofs.Ytdbhhnphpjdmbaa
