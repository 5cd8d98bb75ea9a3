/- Contracts of nest: match, Of, Deep. Conditions: fewer than a million tokens. -/
import Derived.Test.YtdbhhnphpjdmbaaNestE
import Derived.Test.YtdbhhnphpjdmbaaGlyphPure
namespace Go.Proofs.Ytdbhhnphpjdmbaa
open Go.RowKit
set_option maxRecDepth 100000
set_option linter.unusedVariables false
set_option linter.unusedSimpArgs false
def tcell (t : Tk) : List Value := [.int .i32 t.sign, .int .i64 t.n, .int .i32 t.name]
def tcells (l : List Tk) : List Value := l.flatMap tcell
theorem tcells_cons (t : Tk) (l : List Tk) : tcells (t :: l) = tcell t ++ tcells l := by simp [tcells]
theorem tcells_append (a b : List Tk) : tcells (a ++ b) = tcells a ++ tcells b := by simp [tcells]
theorem tcells_length (l : List Tk) : (tcells l).length = l.length * 3 := by
  induction l with
  | nil => rfl
  | cons t l ih => rw [tcells_cons, List.length_append, ih]; simp [tcell]; omega
theorem tcells_one (l : List Tk) : ∀ u ∈ tcells l, u.oneCell' = true := by
  intro u hu
  simp only [tcells, List.mem_flatMap] at hu
  obtain ⟨t, _, ht⟩ := hu
  simp [tcell] at ht
  rcases ht with rfl | rfl | rfl <;> rfl
theorem tcells_get (l : List Tk) (k : Nat) (t : Tk) (h : l[k]? = some t) (j : Nat) (hj : j < 3) : (tcells l)[k * 3 + j]? = (tcell t)[j]? := by
  induction l generalizing k with
  | nil => simp at h
  | cons x l ih =>
    rw [tcells_cons]
    cases k with
    | zero =>
      simp at h
      subst h
      rw [Nat.zero_mul, Nat.zero_add, List.getElem?_append_left (by simpa [tcell] using hj)]
    | succ k =>
      rw [List.getElem?_append_right (by simp [tcell]; omega), ← ih k (by simpa using h)]
      congr 1
      simp [tcell]
      omega
theorem add_step (ad : Addr) (j i : Nat) (hi : 0 < i) : ad.add (j + i) = ⟨(ad.add j).block, (ad.add j).off + i, none⟩ := by
  unfold Addr.add
  rw [if_neg (by omega)]
  by_cases h : j = 0
  · subst h; simp
  · rw [if_neg h]; simp [Nat.add_assoc]
theorem rd_tok {w : World} {A : Option Addr} {l : List Tk} (h : Rd w A (tcells l)) (k : Nat) (t : Tk) (hk : l[k]? = some t) : ∃ ad, A = some ad ∧ w.cell? (ad.add (k * 3)) = some (.int .i32 t.sign) ∧ w.cell? (ad.add (k * 3 + 1)) = some (.int .i64 t.n) ∧ w.cell? (ad.add (k * 3 + 2)) = some (.int .i32 t.name) := by
  obtain ⟨ad, rfl, hc⟩ := h (fun e => by
    have h1 := congrArg List.length e
    rw [tcells_length] at h1
    have h2 := (List.getElem?_eq_some_iff.1 hk).1
    simp only [List.length_nil] at h1
    omega)
  exact ⟨ad, rfl, hc _ _ (tcells_get l k t hk 0 (by decide)), hc _ _ (tcells_get l k t hk 1 (by decide)), hc _ _ (tcells_get l k t hk 2 (by decide))⟩
def signs (l : List Tk) : List Int := l.map (·.sign)
theorem ninv_step {l : List Int} {k : Nat} {M M' : Ms} {R : Rs} (h : NInv l k M R) (hk : k < l.length) (hs : M.step k (sgn l k) = some M') : ∃ R', NInv l (k + 1) M' R' := by
  by_cases hn : sgn l k = 126
  · have e1 : M.step k (sgn l k) = M.leave k := by unfold Ms.step; rw [hn]; rfl
    have hlp : ∃ p ∈ M.opn, p.loop = true := by
      apply Classical.byContradiction
      intro hn2
      rw [e1] at hs
      unfold Ms.leave at hs
      rw [leaveIn_none k M.opn (fun p hp => by cases hb : p.loop with | false => rfl | true => exact absurd ⟨p, hp, hb⟩ hn2)] at hs
      cases hs
    obtain ⟨A, p, B, g1, g2, g3, g4⟩ := leaveIn_some k M.opn hlp
    have e3 : M.leave k = some ⟨M.to, A ++ ⟨p.loop, p.frm, p.oth, p.lvs ++ [k]⟩ :: B, M.deep⟩ := by unfold Ms.leave; rw [g4]; rfl
    rw [e1, e3] at hs
    simp only [Option.some.injEq] at hs
    subst hs
    exact ⟨_, inv_leave h hk hn A B p g1 g2 g3⟩
  · rcases step_both h hk hn with ⟨e1, e2⟩ | ⟨M2, R2, e1, e2, hi⟩
    · rw [hs] at e1
      cases e1
    · rw [hs] at e1
      simp only [Option.some.injEq] at e1
      subst e1
      exact ⟨R2, hi⟩
theorem step_lvs {M M' : Ms} {i : Nat} {s : Int} (h : M.step i s = some M') (h0 : ∀ p ∈ M.opn, p.lvs.length ≤ i) : ∀ p ∈ M'.opn, p.lvs.length ≤ i + 1 := by
  have h1 : ∀ p ∈ M.opn, p.lvs.length ≤ i + 1 := fun p hp => Nat.le_succ_of_le (h0 p hp)
  unfold Ms.step at h
  repeat' split at h
  all_goals try cases h
  · intro p hp
    rcases List.mem_cons.1 hp with rfl | hp
    · simp
    · exact h1 p hp
  · intro p hp
    rcases List.mem_cons.1 hp with rfl | hp
    · simp
    · exact h1 p hp
  · unfold Ms.other at h
    split at h
    · cases h
    · rename_i x q ho
      split at h
      · cases h
      · simp only [Option.some.injEq] at h
        subst h
        intro p hp
        rcases List.mem_cons.1 hp with rfl | hp
        · exact h1 x (by rw [ho]; exact List.mem_cons_self ..)
        · exact h1 p (by rw [ho]; exact List.mem_cons_of_mem _ hp)
  · unfold Ms.endIf at h
    split at h
    · cases h
    · rename_i x q ho
      split at h
      · cases h
      · simp only [Option.some.injEq] at h
        subst h
        exact fun p hp => h1 p (by rw [ho]; exact List.mem_cons_of_mem _ hp)
  · unfold Ms.endLoop at h
    split at h
    · cases h
    · rename_i x q ho
      split at h
      · simp only [Option.some.injEq] at h
        subst h
        exact fun p hp => h1 p (by rw [ho]; exact List.mem_cons_of_mem _ hp)
      · cases h
  · unfold Ms.leave at h
    cases hl : leaveIn i M.opn with
    | none => rw [hl] at h; cases h
    | some o =>
      rw [hl] at h
      simp only [Option.map_some, Option.some.injEq] at h
      subst h
      intro p hp
      have key : ∀ (x o : List Pt), leaveIn i x = some o → (∀ p ∈ x, p.lvs.length ≤ i) → ∀ p ∈ o, p.lvs.length ≤ i + 1 := fun x => by
        induction x with
        | nil => intro o h; cases h
        | cons y x ih =>
          intro o h hx p hp
          unfold leaveIn at h
          split at h
          · simp only [Option.some.injEq] at h
            subst h
            rcases List.mem_cons.1 hp with rfl | hp
            · have := hx y (List.mem_cons_self ..)
              simp
              exact this
            · exact Nat.le_succ_of_le (hx p (List.mem_cons_of_mem _ hp))
          · cases hq : leaveIn i x with
            | none => rw [hq] at h; cases h
            | some q =>
              rw [hq] at h
              simp only [Option.map_some, Option.some.injEq] at h
              subst h
              rcases List.mem_cons.1 hp with rfl | hp
              · exact Nat.le_succ_of_le (hx p (List.mem_cons_self ..))
              · exact ih q hq (fun z hz => hx z (List.mem_cons_of_mem _ hz)) p hp
      exact key M.opn o hl h0 p hp
  · exact h1
/-- where the matcher stands behind k tokens -/
structure At (l : List Int) (k : Nat) (M : Ms) : Prop where
  run : (Ms.init l.length).run 0 (l.take k) = some M
  inv : ∃ R, NInv l k M R
  small : M.small
  lvs : ∀ p ∈ M.opn, p.lvs.length ≤ k
theorem At.wf {l : List Int} {k : Nat} {M : Ms} (h : At l k M) (hn : l.length < 1000000) : MWf M l.length := by
  obtain ⟨R, hi⟩ := h.inv
  refine ⟨hi.lenM, h.small, fun p hp => ?_⟩
  obtain ⟨h1, h2, _⟩ := hi.part p hp
  have := hi.kl
  exact ⟨by omega, by omega, fun y hy => by have := (hi.lvs p hp y hy).2.1; omega, by have := h.lvs p hp; omega⟩
theorem At.next {l : List Int} {k : Nat} {M M' : Ms} (h : At l k M) (hk : k < l.length) (hs : M.step k (sgn l k) = some M') : At l (k + 1) M' := by
  obtain ⟨R, hi⟩ := h.inv
  refine ⟨?_, ninv_step hi hk hs, step_small hs h.small, step_lvs hs h.lvs⟩
  have hg : l[k]? = some (sgn l k) := by unfold sgn; rw [List.getD_eq_getElem?_getD, List.getElem?_eq_getElem hk]; rfl
  rw [take_snoc' l k _ hg, run_append, h.run]
  simp only [Option.bind_some, Ms.run]
  rw [List.length_take, show 0 + min k l.length = k by omega, hs]
  rfl
theorem At.stop {l : List Int} {k : Nat} {M : Ms} (h : At l k M) (hk : k < l.length) (hs : M.step k (sgn l k) = none) : nestOf l = none := by
  have e : l = l.take k ++ sgn l k :: l.drop (k + 1) := by
    have hg : l[k] = sgn l k := by unfold sgn; rw [List.getD_eq_getElem?_getD, List.getElem?_eq_getElem hk]; rfl
    rw [← hg, List.getElem_cons_drop, List.take_append_drop]
  have hr : (Ms.init l.length).run 0 l = none := by
    conv => lhs; arg 3; rw [e]
    rw [run_append, h.run]
    simp only [Option.bind_some, Ms.run]
    rw [List.length_take, show 0 + min k l.length = k by omega, hs]
    rfl
  unfold nestOf
  rw [hr]
theorem At.zero (l : List Int) : At l 0 (Ms.init l.length) := ⟨rfl, ⟨_, init_inv l⟩, ⟨Nat.le_refl _, by simp [Ms.init]⟩, by simp [Ms.init]⟩
theorem At.full {l : List Int} {M : Ms} (h : At l l.length M) : nestOf l = if M.opn = [] then some (M.to, M.deep) else none := by
  have := h.run
  rw [List.take_of_length_le (Nat.le_refl _)] at this
  unfold nestOf
  rw [this]
theorem fill_set (n k : Nat) (hk : k < n) : (List.replicate k (-1 : Int) ++ List.replicate (n - k) 0).set k (-1) = List.replicate (k + 1) (-1) ++ List.replicate (n - (k + 1)) 0 := by
  rw [List.set_append_right _ _ (by simp), List.length_replicate, Nat.sub_self]
  have : n - k = (n - (k + 1)) + 1 := by omega
  rw [this, List.replicate_succ, List.set_cons_zero, List.replicate_succ', List.append_assoc]
  rfl
set_option maxHeartbeats 4000000 in
theorem nest_match (w : World) (A : Option Addr) (n c : Nat) (l : List Tk) (hl : l.length = n) (hn : n < 1000000) (hr : Rd w A (tcells l)) :
    Calls Try.prog 51 #[.slice A n c] w fun e w' => ∃ a ok, e = .returned (.tuple #[.pointer (some ⟨a, 0, none⟩), .bool ok]) ∧ Below w.heap.size w w' ∧ ok = (nestOf (signs l)).isSome ∧ ∀ p, nestOf (signs l) = some p → ∃ M : Ms, MAt w' w.heap.size a M ∧ M.to = p.1 ∧ M.deep = p.2 := by
  have HR := Lib.hid hr
  have HL := Lib.hid hl
  have hsl : Hid ((signs l).length = n) := by show (l.map _).length = n; rw [List.length_map]; exact hl
  have hmk : ∀ W : World, (Instr.makeSlice 38 (.int .i64 (n : Int)) (.int .i64 (n : Int))).run Try.prog W = .ok (.slice (some ⟨W.heap.size, 0, none⟩) n n) (W.alloc (.cells (madeCells (Value.int .i64 0).cells n) 3)) := fun W => by
    obtain ⟨i, hi, hz0, hsz, hby⟩ := info_parts infoInt
    have h := run_makeSlice (P := Try.prog) (w := W) 38 3 i _ Try.underlying38 hi hz0 .i64 .i64 (n : Int) (n : Int) (by omega) (by omega) (by rw [hsz]; simp; omega) (by rw [hby]; omega) (by omega)
    rw [h, hsz]
    simp
  clear hr hl
  go_enter Try.func51, Try.ntmps51
  go_wp2
  obtain ⟨B, hB⟩ : ∃ B, B = w.heap.size := ⟨_, rfl⟩
  have HEQ := Lib.hid hB
  obtain ⟨W1, hW1⟩ : ∃ W1, W1 = (w.alloc (.cells (madeCells #[.int .i64 0] n) 3)).alloc (.cells #[.slice (some ⟨w.heap.size, 0, none⟩) n n, .slice none 0 0, .int .i64 0] 113) := ⟨_, rfl⟩
  rw [← hW1]
  have h0 : W1.heap[w.heap.size]? = some (.cells (madeCells #[.int .i64 0] n) 3) := by rw [hW1]; exact blk_alloc (heap_alloc_new w _) _
  have h1 : W1.heap[w.heap.size + 1]? = some (.cells #[.slice (some ⟨w.heap.size, 0, none⟩) n n, .slice none 0 0, .int .i64 0] 113) := by
    have h := heap_alloc_new (w.alloc (.cells (madeCells #[.int .i64 0] n) 3)) (.cells #[.slice (some ⟨w.heap.size, 0, none⟩) n n, .slice none 0 0, .int .i64 0] 113)
    rw [World.size_alloc] at h
    rw [hW1]
    exact h
  have HB1 : Hid (Below B w W1) := by
    show Below _ _ _
    rw [hW1, hB]
    exact ((Below.refl _ _).alloc (Nat.le_refl _) _).alloc (by rw [World.size_alloc]; omega) _
  have HR1 : Hid (∀ W', Below B w W' → Rd W' A (tcells l)) := fun W' hb => HR.out.below (by rw [← hB]; exact hb)
  have hto : (icells (List.replicate n 0)) = (madeCells #[.int .i64 0] n).toList := by
    rw [toList_madeCells_one]
    simp [icells]
  have HM1 : Hid (MA W1 B (B + 1) B n (.slice none 0 0) [] ⟨List.replicate 0 (-1) ++ List.replicate (n - 0) 0, [], 0⟩) := by
    refine ⟨by omega, ?_, ?_, ?_, rfl, fun k p v hp hv => by simp at hv, by simp [Apart]⟩
    · rw [hB, h1]
      simp
    · have hlen : (List.replicate 0 (-1 : Int) ++ List.replicate (n - 0) 0).length = n := by simp
      rw [hlen]
      have e : List.replicate 0 (-1 : Int) ++ List.replicate (n - 0) 0 = List.replicate n 0 := by simp
      rw [e]
      refine ⟨by rw [icells_length]; simp, .inr ⟨B, n, madeCells #[.int .i64 0] n, rfl, Nat.le_refl _, by rw [hB]; exact h0, Nat.le_refl _, by unfold maxLen; omega, ?_, ?_⟩⟩
      · rw [← Array.length_toList, ← hto, icells_length]; simp
      · rw [← hto, List.take_of_length_le (by rw [icells_length]; simp)]
    · exact World.ownsRow_nil _ _ _ _
  have HSZ : Hid (B ≤ w.heap.size) := by show B ≤ _; omega
  rw [← hB]
  clear h0 h1 hto hW1
  go_loopw [5, 15] (fun _ u wr => ∃ k : Nat, k ≤ n ∧ u = .int .i64 k ∧ Hid (MA wr B (B + 1) B n (.slice none 0 0) [] ⟨List.replicate k (-1) ++ List.replicate (n - k) 0, [], 0⟩) ∧ Hid (Below B w wr)) (fun _ u _ => n - (intOf u).toNat)
  case atStart => exact ⟨0, Nat.zero_le _, rfl, HM1.out, HB1.out⟩
  case round =>
    obtain ⟨k, hk, rfl, HM, HB⟩ := hrel
    by_cases hlt : k < n
    · have hlen : (List.replicate k (-1 : Int) ++ List.replicate (n - k) 0).length = n := by simp; omega
      have b0 := blk_cell HM.out.blk 0
      have hto := HM.out.to
      simp at b0
      have hkk : k + (n - k) = n := by omega
      rw [hkk] at b0
      rw [hlen] at hto
      obtain ⟨x, t0, tf⟩ := to_cell HM.out.to k (by rw [hlen]; exact hlt)
      have hm2 := HM.out.setTo k (by show k < List.length _; rw [hlen]; exact hlt) (-1)
      simp only at hm2
      rw [fill_set n k hlt] at hm2
      have hm2 := Lib.hid hm2
      have hb2 := Lib.hid (HB.out.setCell (Nat.le_refl B) (p := ⟨B, k, none⟩) (.int .i64 (-1)))
      have hlt2 : (k : Int) < (n : Int) := by omega
      clear hlen hto hkk hB
      go_wp2
      go_roundw
      case rel => exact ⟨k + 1, by omega, by go_num, hm2.out, hb2.out⟩
      case measure => simp [intOf]; omega
    · obtain rfl : n = k := by omega
      have HM0 : Hid (MAt wr B (B + 1) (Ms.init (signs l).length)) := by
        show MAt _ _ _ _
        have h := HM.out.mat
        rw [hsl.out]
        unfold Ms.init
        rw [Nat.sub_self] at h
        simpa using h
      have HSW : Hid (B ≤ wr.heap.size) := by
        have := HB.out.size
        have h2 := HSZ.out
        show B ≤ _
        omega
      clear HM1 hk hlt hmk HM hB
      go_wp2
      obtain ⟨w1, hw1⟩ : ∃ w1, w1 = wr := ⟨_, rfl⟩
      rw [← hw1] at HM0 HB HSW ⊢
      clear hw1
      go_loopw [6, 7, 27] (fun _ _ u wr => ∃ (k : Nat) (M : Ms), k ≤ n ∧ u = .int .i64 k ∧ Hid (At (signs l) k M) ∧ Hid (MAt wr B (B + 1) M) ∧ Hid (Below B w wr)) (fun _ _ u _ => n - (intOf u).toNat)
      case atStart => exact ⟨0, _, Nat.zero_le _, rfl, At.zero _, HM0.out, HB.out⟩
      case round =>
        obtain ⟨k, M, hk, rfl, HA, HM, HB2⟩ := hrel
        have hsz : B ≤ wr.heap.size := by
          have h1 := HB2.out.size
          have h2 := HSZ.out
          omega
        by_cases hlt : k < n
        · have hg : ∃ t, l[k]? = some t := ⟨l[k]'(by rw [HL.out]; exact hlt), List.getElem?_eq_getElem _⟩
          obtain ⟨t, ht⟩ := hg
          obtain ⟨ad, rfl, q0, q1, q2⟩ := rd_tok (HR1.out wr HB2.out) k t ht
          have hs : sgn (signs l) k = t.sign := by
            unfold sgn signs
            rw [List.getD_eq_getElem?_getD, List.getElem?_map, ht]
            rfl
          have hwf := Lib.hid (HA.out.wf (by rw [hsl.out]; exact hn))
          have hm1 := Lib.hid (HM.out.below ((Below.refl wr.heap.size wr).alloc (Nat.le_refl _) (.cells #[.int .i32 t.sign, .int .i64 t.n, .int .i32 t.name] 57)))
          have hb1 := Lib.hid (HB2.out.alloc hsz (.cells #[.int .i32 t.sign, .int .i64 t.n, .int .i32 t.name] 57))
          have hss := Lib.hid hs
          have ht := Lib.hid ht
          have hlt2 : (k : Int) < (n : Int) := by omega
          clear hs
          rw [add_step ad (k * 3) 1 (by decide)] at q1
          rw [add_step ad (k * 3) 2 (by decide)] at q2
          have hszA : Hid (B ≤ (wr.alloc (.cells #[.int .i32 t.sign, .int .i64 t.n, .int .i32 t.name] 57)).heap.size) := by show B ≤ _; rw [World.size_alloc]; omega
          have hwf' : MWf M n := by rw [← hsl.out]; exact hwf.out
          have hwf' := Lib.hid hwf'
          have hcon := Lib.hid (m_token hm1.out hwf'.out k hlt hn hszA.out t.sign)
          cases hst : M.step k t.sign with
          | none =>
            have hnone : Hid (nestOf (signs l) = none) := HA.out.stop (by rw [hsl.out]; exact hlt) (by rw [hss.out]; exact hst)
            rw [hst] at hcon
            clear hst
            go_wp2_with (fail)
            refine hcon.out.mono ?_
            rintro e w2 ⟨rfl, hb2, -⟩
            have hfin := Lib.hid (hb1.out.trans hb2)
            clear hb2
            go_wp2
            go_ret2
            rw [← HEQ.out]
            exact ⟨_, _, rfl, hfin.out, by rw [hnone.out]; rfl, fun p hp => by rw [hnone.out] at hp; cases hp⟩
          | some M' =>
            have hnext := Lib.hid (HA.out.next (by rw [hsl.out]; exact hlt) (by rw [hss.out]; exact hst))
            rw [hst] at hcon
            clear hst
            go_wp2_with (fail)
            refine hcon.out.mono ?_
            rintro e w2 ⟨rfl, hb2, hm2⟩
            have hfin := Lib.hid (hb1.out.trans hb2)
            have hm2 := Lib.hid (hm2 M' rfl)
            clear hb2
            go_wp2
            go_roundw
            case rel => exact ⟨k + 1, M', by omega, by go_num, hnext.out, hm2.out, hfin.out⟩
            case measure => simp [intOf]; omega
        · obtain rfl : n = k := by omega
          have hfull := HA.out
          rw [← hsl.out] at hfull
          have hfull := Lib.hid hfull.full
          obtain ⟨tb, tc, vo, vs, hma⟩ := HM.out.ma
          have b1 := blk_cell hma.blk 1
          simp at b1
          obtain ⟨A1, c1, rfl⟩ := own_form hma.opn
          have hma := Lib.hid hma
          obtain ⟨m, hm⟩ : ∃ m, m = M.opn.length := ⟨_, rfl⟩
          rw [← hm] at b1
          have hm := Lib.hid hm
          clear hlt hk
          go_wp2
          go_quiet (fail)
          go_wp2
          go_ret2
          rw [← HEQ.out]
          refine ⟨_, _, rfl, below_drewN' HB2.out _, ?_, fun p hp => ?_⟩
          · rw [hfull.out]
            cases ho : M.opn with
            | nil => simp [hm.out, ho]
            | cons x y => simp [hm.out, ho]; omega
          · rw [hfull.out] at hp
            split at hp
            · cases hp
              exact ⟨M, hma.out.mat.below (below_drewN' (Below.refl _ _) _), rfl, rfl⟩
            · cases hp
set_option maxHeartbeats 1000000 in
theorem nest_Of (w : World) (A : Option Addr) (n c : Nat) (l : List Tk) (hl : l.length = n) (hn : n < 1000000) (hr : Rd w A (tcells l)) :
    Calls Try.prog 21 #[.slice A n c] w fun e w' => Below w.heap.size w w' ∧ ((nestOf (signs l) = none ∧ e = .returned (.tuple #[.slice none 0 0, .int .i64 13])) ∨ ∃ p g c', nestOf (signs l) = some p ∧ p.1.length = n ∧ e = .returned (.tuple #[.slice (some ⟨g, 0, none⟩) n c', .int .i64 0]) ∧ w'.ownsRow w.heap.size 3 1 (.slice (some ⟨g, 0, none⟩) n c') n (icells p.1)) := by
  have hcon := Lib.hid (nest_match w A n c l hl hn hr)
  have hll : Hid ((signs l).length = n) := by show (l.map _).length = n; rw [List.length_map]; exact hl
  clear hl hr
  cases hno : nestOf (signs l) with
  | none =>
    have hno := Lib.hid hno
    go_enter Try.func21, Try.ntmps21
    go_wp2_with (fail)
    refine hcon.out.mono ?_
    rintro e w1 ⟨a, ok, rfl, hb, hok, -⟩
    rw [hno.out] at hok
    subst hok
    have hb := Lib.hid hb
    go_wp2
    go_ret2
    first | exact ⟨hb.out, .inl ⟨rfl, rfl⟩⟩ | exact ⟨hb.out, .inl ⟨trivial, rfl⟩⟩
  | some p =>
    have hno := Lib.hid hno
    go_enter Try.func21, Try.ntmps21
    go_wp2_with (fail)
    refine hcon.out.mono ?_
    rintro e w1 ⟨a, ok, rfl, hb, hok, hm⟩
    rw [hno.out] at hok
    subst hok
    obtain ⟨M, hM, hto, hdp⟩ := hm p hno.out
    obtain ⟨tb, tc, vo, vs, hma⟩ := hM.ma
    have hlen : M.to.length = n := by
      obtain ⟨p1, p2⟩ := p
      rw [hto, (nestOf_within hno.out).1, hll.out]
    have b0 := blk_cell hma.blk 0
    simp at b0
    rw [hlen] at b0
    have hown := hma.to
    rw [hlen, hto] at hown
    have hlen2 : p.1.length = n := by rw [← hto, hlen]
    have hown := Lib.hid hown
    have hlen2 := Lib.hid hlen2
    have hb := Lib.hid hb
    clear hm hM hto hdp hma hlen
    go_wp2
    go_ret2
    exact ⟨hb.out, .inr ⟨p, tb, tc, rfl, hlen2.out, rfl, hown.out⟩⟩
theorem nest_Deep (w : World) (A : Option Addr) (n c : Nat) (l : List Tk) (hl : l.length = n) (hn : n < 1000000) (hr : Rd w A (tcells l)) :
    Calls Try.prog 22 #[.slice A n c] w fun e w' => e = .returned (.int .i64 (match nestOf (signs l) with | some p => (p.2 : Int) | none => -1)) ∧ Below w.heap.size w w' := by
  have hcon := Lib.hid (nest_match w A n c l hl hn hr)
  clear hl hr
  cases hno : nestOf (signs l) with
  | none =>
    have hno := Lib.hid hno
    go_enter Try.func22, Try.ntmps22
    go_wp2_with (fail)
    refine hcon.out.mono ?_
    rintro e w1 ⟨a, ok, rfl, hb, hok, -⟩
    rw [hno.out] at hok
    subst hok
    have hb := Lib.hid hb
    go_wp2
    go_ret
    exact ⟨rfl, hb.out⟩
  | some p =>
    have hno := Lib.hid hno
    go_enter Try.func22, Try.ntmps22
    go_wp2_with (fail)
    refine hcon.out.mono ?_
    rintro e w1 ⟨a, ok, rfl, hb, hok, hm⟩
    rw [hno.out] at hok
    subst hok
    obtain ⟨M, hM, hto, hdp⟩ := hm p hno.out
    obtain ⟨tb, tc, vo, vs, hma⟩ := hM.ma
    have b2 := blk_cell hma.blk 2
    simp at b2
    rw [hdp] at b2
    have hb := Lib.hid hb
    clear hm hM hto hdp hma
    go_wp2
    go_ret
    exact ⟨rfl, hb.out⟩
end Go.Proofs.Ytdbhhnphpjdmbaa
