/- The reference's disk: Of, New. -/
import Derived.Test.YtdbhhnphpjdmbaaRef
namespace Go.Proofs.Ytdbhhnphpjdmbaa
open Go.RowKit
set_option maxRecDepth 100000
set_option linter.unusedVariables false
set_option linter.unusedSimpArgs false
theorem Rd.allocd {w : World} {A : Option Addr} {vs : List Value} (h : Rd w A vs) (o : Obj) : Rd (w.alloc o) A vs := h.below ((Below.refl _ _).alloc (Nat.le_refl _) _)
theorem Rd.drewd {w : World} {A : Option Addr} {vs : List Value} (h : Rd w A vs) : Rd w.drew A vs := h
/-- in a region that draws: a row put behind an empty one of no room -/
theorem step_appendE {P : Program} {ops : Array Oper} {o : Oper} {a : Act} {W : World} {K : Act → World → Prop} {Q : Exit → Act → World → Prop} {E : Prop} (hgd : o.guard = none) (s x : Operand) (t e : TypeId) (z : Value) (bytes : Nat)
    (ho : o.op = .call { callee := .builtin .append, args := #[s, x], argTypes := #[t, t] }) (ht : P.underlying t = some (.slice e)) (hinfo : (P.info? e).map (fun i => (i.zero, i.size, i.bytes)) = some (some z, 1, bytes)) (hz1 : z.cells.size = 1)
    (g : Nat) (A : Option Addr) (n c : Nat) (news : List Value) (hs : a.eval s = .slice (some ⟨g, 0, none⟩) 0 0) (hx : a.eval x = .slice A n c) (hl : news.length = n) (hn : n ≠ 0) (hr : Rd W A news) (hm : n ≤ maxLen) (hb : n * bytes ≤ 140737488355328)
    (h : ∀ cur cap, cur.size = cap → cur.toList.take n = news → n ≤ cap → cap ≤ maxLen → K (a.put o.dst (.slice (some ⟨W.heap.size, 0, none⟩) n cap)) (W.drew.alloc (.cells cur e))) :
    if Region.wanted o (yielded ops a.tmps) = true then Oper.wp P o a W K Q else E := by
  have hw : Region.wanted o (yielded ops a.tmps) = true := by simp [Region.wanted, hgd]
  rw [if_pos hw]
  obtain ⟨i, hi, hz0, hsz, hby⟩ := info_parts hinfo
  obtain ⟨ad, rfl, h2⟩ := hr (fun e => hn (by rw [← hl, e]; rfl))
  have hm' : n ≤ 9223372036854775807 := by simp only [maxLen] at hm; omega
  have hrun := run_append_grow (P := P) (w := W) t o.type e i z ht hi hz0 ⟨g, 0, none⟩ 0 0 [] (by simp) (by simp) ad n c news (by rw [hsz, hl, Nat.mul_one]) h2 (by omega) (by omega) (growslice_fits (by omega) (by rw [hby]; simpa using hb))
  have hge := grownCap_ge W (0 + n) 0 e
  have hcm := grownCap_le_maxLen W (0 + n) 0 e (by simpa using hm)
  simp only [Nat.zero_add] at hrun hge hcm
  unfold Oper.wp
  simp only [execOp, ho, resolve, invoke, builtin, Sem.run_bind, Sem.run_pure, Result.andThen_ok, List.map_toArray, List.map_cons, List.map_nil, hs, hx, hrun]
  refine h _ _ ?_ ?_ hge hcm
  · simp only [Array.size_append, List.size_toArray, size_zeroCells, hz1, hl, List.length_nil]
    omega
  · simp only [Array.toList_append, List.append_assoc, List.nil_append]
    rw [← hl]
    exact List.take_left
theorem box_at {X : World} {o : Obj} {a : Nat} (h : X.heap.size = a) : (X.alloc o).drew.drew.drew.heap[a]? = some o := by
  subst h
  exact heap_alloc_new X o
theorem blk_new {X : World} {o : Obj} {a : Nat} (h : X.heap.size = a) : (X.alloc o).heap[a]? = some o := by
  subst h
  exact heap_alloc_new X o
theorem blk_drew3 {X : World} {o : Obj} {a : Nat} (h : X.heap[a]? = some o) : X.drew.drew.drew.heap[a]? = some o := h
theorem below_drew3 {B : Nat} {w X : World} (h : Below B w X) : Below B w X.drew.drew.drew := ⟨h.os, h.tape, h.output, h.size, h.block⟩
/-- a disk of the reference, just made -/
theorem ref_made {W : World} {B : Nat} {n m a lb lc nb nc wb : Nat} {cl cn cw : Array Value} {bs : List UInt8} (hn : bs.length = n) (hm : n = m * 64) (h1 : 1 ≤ m) (h2 : m ≤ 160)
    (ha : W.heap[a]? = some (.cells #[.slice (some ⟨lb, 0, none⟩) n lc, .slice (some ⟨nb, 0, none⟩) n nc, .slice (some ⟨wb, 0, none⟩) m m, .int .i64 (-1), .int .i64 0] 154))
    (hl : W.heap[lb]? = some (.cells cl 5)) (hnb : W.heap[nb]? = some (.cells cn 5)) (hw : W.heap[wb]? = some (.cells cw 4)) (hne : lb ≠ nb)
    (bl : B ≤ lb) (bn : B ≤ nb) (bw : B ≤ wb) (ba : B ≤ a)
    (cl1 : cl.size = lc) (cl2 : cl.toList.take n = bcells bs) (cl3 : n ≤ lc) (cl4 : lc ≤ maxLen) (cn1 : cn.size = nc) (cn2 : cn.toList.take n = bcells bs) (cn3 : n ≤ nc) (cn4 : nc ≤ maxLen) (cw1 : cw.toList = List.replicate m (.bool false)) :
    RkAt W (fun i => B ≤ i ∧ i < W.heap.size) a ⟨bs, bs, List.replicate m false, -1, 0⟩ := by
  subst hn
  have hbl : (bcells bs).length = bs.length * 1 := by rw [bcells_length, Nat.mul_one]
  refine ⟨lb, lc, nb, nc, wb, m, ⟨ba, blk_lt ha⟩, ⟨bl, blk_lt hl⟩, ⟨bn, blk_lt hnb⟩, ⟨bw, blk_lt hw⟩, fun i hi => hi.2, hne, by simpa using ha, ⟨hbl, .inr ⟨lb, lc, cl, rfl, Nat.zero_le _, hl, cl3, cl4, by rw [cl1, Nat.mul_one], by rw [Nat.mul_one]; exact cl2⟩⟩, ⟨hbl, .inr ⟨nb, nc, cn, rfl, Nat.zero_le _, hnb, cn3, cn4, by rw [cn1, Nat.mul_one], by rw [Nat.mul_one]; exact cn2⟩⟩, ?_, ⟨by simpa using h1, by simpa using h2, by simpa using hm, by simpa using hm⟩⟩
  have hcs : cw.size = m := by rw [← Array.length_toList, cw1, List.length_replicate]
  refine ⟨by simp [bbools], .inr ⟨wb, m, cw, by simp, Nat.zero_le _, hw, by simp, by unfold maxLen; omega, by rw [hcs, Nat.mul_one], ?_⟩⟩
  rw [cw1]
  simp [bbools]
set_option maxHeartbeats 8000000 in
theorem ref_Of (w : World) (A : Option Addr) (n m c : Nat) (bs : List UInt8) (hnm : n = m * 64) (hn : bs.length = n) (h1 : 1 ≤ m) (h2 : m ≤ 160) (hr : Rd w A (bcells bs)) :
    Calls Try.prog 83 #[.slice A n c] w fun e w' => ∃ a S, e = .returned (.pointer (some ⟨a, 0, none⟩)) ∧ RkAt w' S a ⟨bs, bs, List.replicate m false, -1, 0⟩ ∧ (∀ i, S i → w.heap.size ≤ i) ∧ Below w.heap.size w w' := by
  have HN := Lib.hid hn
  have HNM := Lib.hid hnm
  have hlb : Hid ((bcells bs).length = n) := by show _ = _; rw [bcells_length, hn]
  have hq : (n : Int) / 64 = (m : Int) := by omega
  have hq0 : (n : Int) % 64 = 0 := by omega
  have hlt : (n : Int) ≤ 10240 := by omega
  have hm1 : (m : Int) < 1 ↔ False := by simp; omega
  have hm2 : (160 : Int) < m ↔ False := by simp; omega
  have hr0 : Rd w.drew A (bcells bs) := hr
  have hn0 : n ≠ 0 := by omega
  have hmx : n ≤ maxLen := by unfold maxLen; omega
  have hmb : n ≤ 140737488355328 := by omega
  clear hr hnm hn
  have hmk : ∀ W : World, (Instr.makeSlice 23 (.int .i64 (m : Int)) (.int .i64 (m : Int))).run Try.prog W = .ok (.slice (some ⟨W.heap.size, 0, none⟩) m m) (W.alloc (.cells (madeCells (Value.bool false).cells m) 4)) := fun W => by
    obtain ⟨i, hi, hz0, hsz, hby⟩ := info_parts infoBool
    have h := run_makeSlice (P := Try.prog) (w := W) 23 4 i _ Try.underlying23 hi hz0 .i64 .i64 (m : Int) (m : Int) (by omega) (by omega) (by rw [hsz]; simp; omega) (by rw [hby]; omega) (by omega)
    rw [h, hsz]
    simp
  go_enter Try.func83, Try.ntmps83
  go_wp2_with (fail)
  go_region_held3 (fun w' => Rd w' A (bcells bs)) (first | assumption | (refine Rd.allocd ?_ _; assumption) | (refine Rd.allocd (Rd.drewd ?_) _; assumption)) (first
    | (refine step_appendE rfl (.tmp 19) (.tmp 20) 66 5 _ 1 rfl Try.underlying66 infoByte rfl _ A n c (bcells bs) rfl rfl hlb.out hn0 (by assumption) hmx (by rw [Nat.mul_one]; exact hmb) ?_; intro cur1 cap1 e11 e12 e13 e14)
    | (refine step_appendE rfl (.tmp 22) (.tmp 23) 66 5 _ 1 rfl Try.underlying66 infoByte rfl _ A n c (bcells bs) rfl rfl hlb.out hn0 (by assumption) hmx (by rw [Nat.mul_one]; exact hmb) ?_; intro cur2 cap2 e21 e22 e23 e24))
  all_goals go_wp2
  all_goals go_ret
  all_goals refine ⟨_, _, rfl, ref_made (B := w.heap.size) (cl := cur1) (cn := cur2) (cw := madeCells #[.bool false] m) HN.out HNM.out h1 h2 (box_at (by simp)) ?_ ?_ ?_ ?_ ?_ ?_ ?_ ?_ e11 e12 e13 e14 e21 e22 e23 e24 (toList_madeCells_one _ _), fun i hi => hi.1, ?_⟩
  all_goals first
    | omega
    | (refine blk_drew3 ?_; repeat (first | exact blk_new (by simp) | refine blk_alloc ?_ _))
    | (refine below_drew3 ?_; repeat (first | exact Below.refl _ _ | refine Below.alloc ?_ (by try simp only [World.size_alloc]
                                                                                               omega) _))
theorem ref_Of_none (w : World) (A : Option Addr) (n c : Nat) (hm : n ≤ 140737488355328) (h : ¬ (n % 64 = 0 ∧ 1 ≤ n / 64 ∧ n / 64 ≤ 160)) :
    Calls Try.prog 83 #[.slice A n c] w fun e w' => e = .returned (.pointer none) ∧ w = w' := by
  obtain ⟨q, hq⟩ : ∃ q : Nat, q = n / 64 := ⟨_, rfl⟩
  have hq1 : (n : Int) / 64 = (q : Int) := by omega
  rw [← hq] at h
  by_cases h1 : n % 64 = 0
  · have hi1 : (n : Int) % 64 = 0 := by omega
    by_cases h2 : q < 1
    · have hi2 : ((q : Int) < 1) := by omega
      clear hq
      go_enter Try.func83, Try.ntmps83
      go_wp2
      go_ret
      exact ⟨rfl, rfl⟩
    · have hi2 : ¬ ((q : Int) < 1) := by omega
      have hi3 : (160 : Int) < q := by omega
      have hi4 : (q : Int) ≤ 140737488355328 := by omega
      clear hq
      go_enter Try.func83, Try.ntmps83
      go_wp2
      go_ret
      exact ⟨rfl, rfl⟩
  · have hi1 : ((n : Int) % 64 == 0) = false := by simp; omega
    clear hq
    go_enter Try.func83, Try.ntmps83
    go_wp2
    go_ret
    exact ⟨rfl, rfl⟩
set_option maxHeartbeats 2000000 in
theorem ref_New (w : World) (s : Int) (h0 : 1 ≤ s) (h1 : s ≤ 160) :
    Calls Try.prog 59 #[.int .i64 s] w fun e w' => ∃ a S, e = .returned (.pointer (some ⟨a, 0, none⟩)) ∧ RkAt w' S a ⟨zeros (s.toNat * 64), zeros (s.toNat * 64), List.replicate s.toNat false, -1, 0⟩ ∧ (∀ i, S i → w.heap.size ≤ i) ∧ Below w.heap.size w w' := by
  obtain ⟨k, rfl⟩ := Int.eq_ofNat_of_zero_le (show 0 ≤ s by omega)
  go_enter Try.func59, Try.ntmps59
  obtain ⟨w1, hmk, ho1, hg1⟩ := make_zeros w (k * 64) (by omega)
  have hb1 := Lib.hid (Below.grown (Below.refl w.heap.size w) hg1 (Nat.le_refl _) (fun q hq => by simp at hq))
  have hs1 := hb1.out.size
  have ho1 := Lib.hid ho1
  rw [show ((k * 64 : Nat) : Int) = (k : Int) * 64 by omega] at hmk
  have hlz : Hid ((zeros (k * 64)).length = k * 64) := by simp [Hid, zeros]
  go_wp2_with (fail)
  refine (ref_Of w1 _ (k * 64) k (k * 64) (zeros (k * 64)) rfl hlz.out (by omega) (by omega) (own_rd ho1.out)).mono ?_
  rintro e w2 ⟨a, S, rfl, hd, hS, hb2⟩
  have hd := Lib.hid hd
  have hb2 := Lib.hid hb2
  have hS := Lib.hid hS
  go_wp2
  go_ret
  exact ⟨a, S, rfl, hd.out, fun i hi => Nat.le_trans hs1 (hS.out i hi), below_more hb1 hb2.out⟩
theorem ref_New_none (w : World) (s : Int) (h : ¬ (1 ≤ s ∧ s ≤ 160)) :
    Calls Try.prog 59 #[.int .i64 s] w fun e w' => e = .returned (.pointer none) ∧ w = w' := by
  by_cases h0 : s < 1
  · go_enter Try.func59, Try.ntmps59
    go_wp2
    go_ret
    exact ⟨rfl, rfl⟩
  · have h1 : s > 160 := by omega
    go_enter Try.func59, Try.ntmps59
    go_wp2
    go_ret
    exact ⟨rfl, rfl⟩
theorem lay_length (l : List UInt8) (i : Int) (b : List UInt8) (h : i.toNat * 64 + b.length ≤ l.length) : (lay l i b).length = l.length := by simp [lay]; omega
theorem put_ok {R : Rk} (h : R.ok) (i : Int) (b : List UInt8) (hi : R.there i = true) (hb : b.length = 64) : (R.deed.put i b).ok := by
  have h1 := (R.there_iff i).1 hi
  have hw : R.deed.wait = R.wait := by unfold Rk.deed; split <;> rfl
  have hn : R.deed.now = R.now := by unfold Rk.deed; split <;> rfl
  have hl : R.deed.lasts = R.lasts := by unfold Rk.deed; split <;> rfl
  refine ⟨by simp [Rk.put, hw, h.some_], by simp [Rk.put, hw, h.most], by simp [Rk.put, hw, hl, h.lasts], ?_⟩
  simp only [Rk.put, hw, hn, List.length_set]
  rw [lay_length _ _ _ (by rw [h.now, hb]; omega)]
  exact h.now
end Go.Proofs.Ytdbhhnphpjdmbaa
