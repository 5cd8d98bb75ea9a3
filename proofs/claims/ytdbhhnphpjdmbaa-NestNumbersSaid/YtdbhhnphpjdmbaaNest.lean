/- The matcher in memory, and contracts of its methods. -/
import Derived.Test.YtdbhhnphpjdmbaaRow
import Derived.Test.YtdbhhnphpjdmbaaNestPure
import Derived.Deep.RegionHeld3
namespace Go.Proofs.Ytdbhhnphpjdmbaa
open Go.RowKit
set_option maxRecDepth 100000
set_option linter.unusedVariables false
set_option linter.unusedSimpArgs false
theorem infoPart : (Try.prog.info? 164).map (fun i => (i.zero, i.size, i.bytes)) = some (some (.agg #[.bool false, .int .i64 0, .int .i64 0, .slice none 0 0]), 4, 48) := by kernel_rfl
theorem infoInt : (Try.prog.info? 3).map (fun i => (i.zero, i.size, i.bytes)) = some (some (.int .i64 0), 1, 8) := by kernel_rfl
def pcell (p : Pt) (v : Value) : List Value := [.bool p.loop, .int .i64 (p.frm : Int), .int .i64 (p.oth : Int), v]
def pcells : List Pt → List Value → List Value
  | p :: ps, v :: vs => pcell p v ++ pcells ps vs
  | _, _ => []
theorem pcells_length : ∀ (ps : List Pt) (vs : List Value), vs.length = ps.length → (pcells ps vs).length = ps.length * 4
  | [], [], _ => rfl
  | p :: ps, v :: vs, h => by
    have := pcells_length ps vs (by simpa using h)
    simp [pcells, pcell, this]
    omega
theorem pcells_append : ∀ (ps qs : List Pt) (vs us : List Value), vs.length = ps.length → pcells (ps ++ qs) (vs ++ us) = pcells ps vs ++ pcells qs us
  | [], qs, [], us, _ => rfl
  | p :: ps, qs, v :: vs, us, h => by
    show pcell p v ++ pcells (ps ++ qs) (vs ++ us) = pcell p v ++ pcells ps vs ++ pcells qs us
    rw [pcells_append ps qs vs us (by simpa using h), List.append_assoc]
theorem pcells_get : ∀ (ps : List Pt) (vs : List Value) (k : Nat) (p : Pt) (v : Value), ps[k]? = some p → vs[k]? = some v → ∀ j, j < 4 → (pcells ps vs)[k * 4 + j]? = (pcell p v)[j]?
  | p :: ps, v :: vs, 0, q, u, h1, h2, j, hj => by
    simp at h1 h2
    subst h1 h2
    show (pcell p v ++ pcells ps vs)[0 * 4 + j]? = _
    rw [Nat.zero_mul, Nat.zero_add, List.getElem?_append_left (by simpa [pcell] using hj)]
  | p :: ps, v :: vs, k + 1, q, u, h1, h2, j, hj => by
    have := pcells_get ps vs k q u (by simpa using h1) (by simpa using h2) j hj
    show (pcell p v ++ pcells ps vs)[(k + 1) * 4 + j]? = _
    rw [List.getElem?_append_right (by simp [pcell]; omega), ← this]
    congr 1
    simp [pcell]
    omega
  | [], _, k, q, u, h1, h2, j, hj => by simp at h1
  | _ :: _, [], k, q, u, h1, h2, j, hj => by simp at h2
/-- one cell of one part turned -/
theorem pcells_set : ∀ (ps : List Pt) (vs : List Value) (k : Nat) (p p' : Pt) (v v' : Value) (j : Nat) (u : Value), ps[k]? = some p → vs[k]? = some v → j < 4 → (pcell p v).set j u = pcell p' v' → (pcells ps vs).set (k * 4 + j) u = pcells (ps.set k p') (vs.set k v')
  | p :: ps, v :: vs, 0, q, q', u, u', j, x, h1, h2, hj, hs => by
    simp at h1 h2
    subst h1 h2
    show (pcell p v ++ pcells ps vs).set (0 * 4 + j) x = pcell q' u' ++ pcells ps vs
    rw [Nat.zero_mul, Nat.zero_add, List.set_append_left _ _ (by simpa [pcell] using hj), hs]
  | p :: ps, v :: vs, k + 1, q, q', u, u', j, x, h1, h2, hj, hs => by
    have := pcells_set ps vs k q q' u u' j x (by simpa using h1) (by simpa using h2) hj hs
    show (pcell p v ++ pcells ps vs).set ((k + 1) * 4 + j) x = pcell p v ++ pcells (ps.set k q') (vs.set k u')
    rw [List.set_append_right _ _ (by simp [pcell]; omega), ← this]
    congr 2
    simp [pcell]
    omega
  | [], _, k, q, q', u, u', j, x, h1, h2, hj, hs => by simp at h1
  | _ :: _, [], k, q, q', u, u', j, x, h1, h2, hj, hs => by simp at h2
/-- blocks that lie apart -/
def Apart (l : List (Option Nat)) : Prop := l.Pairwise fun x y => x = y → x = none
def MAt (w : World) (B a : Nat) (M : Ms) : Prop :=
  ∃ tb tc vo vs, B ≤ a ∧ w.heap[a]? = some (.cells #[.slice (some ⟨tb, 0, none⟩) M.to.length tc, vo, .int .i64 (M.deep : Int)] 113) ∧
    w.ownsRow B 3 1 (.slice (some ⟨tb, 0, none⟩) M.to.length tc) M.to.length (icells M.to) ∧
    w.ownsRow B 164 4 vo M.opn.length (pcells M.opn.reverse vs) ∧ vs.length = M.opn.length ∧
    (∀ (k : Nat) (p : Pt) (v : Value), M.opn.reverse[k]? = some p → vs[k]? = some v → w.ownsRow B 3 1 v p.lvs.length (icells (p.lvs.map Int.ofNat))) ∧
    Apart (some tb :: vs.map Value.ownBlock)
theorem MAt.lt {w : World} {B a : Nat} {M : Ms} (h : MAt w B a M) : a < w.heap.size := by
  obtain ⟨tb, tc, vo, vs, h0, h1, _⟩ := h
  exact blk_lt h1
theorem MAt.below {w w' : World} {B a : Nat} {M : Ms} (h : MAt w B a M) (hb : Below w.heap.size w w') : MAt w' B a M := by
  obtain ⟨tb, tc, vo, vs, h0, h1, h2, h3, h4, h5, h6⟩ := h
  exact ⟨tb, tc, vo, vs, h0, (hb.block a (blk_lt h1)).trans h1, own_below h2 hb, own_below h3 hb, h4, fun k p v hp hv => own_below (h5 k p v hp hv) hb, h6⟩
set_option maxHeartbeats 1000000 in
theorem m_begin {w : World} {B a : Nat} {M : Ms} (h : MAt w B a M) (h16 : M.opn.length ≤ 16) (hB : B ≤ w.heap.size) (i : Nat) (b : Bool) (hd : M.deep ≤ 1000000) :
    Calls Try.prog 93 #[.pointer (some ⟨a, 0, none⟩), .int .i64 (i : Int), .bool b] w fun e w' => e = .returned (.bool (decide (M.opn.length < 16))) ∧ Below B w w' ∧ MAt w' B a (M.begin i b) := by
  obtain ⟨tb, tc, vo, vs, h0, h1, h2, h3, h4, h5, h6⟩ := h
  have c0 := blk_cell h1 0
  have c1 := blk_cell h1 1
  have c2 := blk_cell h1 2
  have f1 := blk_free h1 1
  have f2 := blk_free h1 2
  simp at c0 c1 c2
  obtain ⟨A, c, rfl⟩ := own_form h3
  have hlt := blk_lt h1
  have H1 := Lib.hid h1
  have H2 := Lib.hid h2
  have H3 := Lib.hid h3
  have H4 := Lib.hid h4
  have H5 := Lib.hid h5
  have H6 := Lib.hid h6
  obtain ⟨n, hn⟩ : ∃ n, n = M.opn.length := ⟨_, rfl⟩
  rw [← hn] at h16 H3 c1 ⊢
  have HN := Lib.hid hn
  clear h1 h2 h3 h4 h5 h6 hn
  go_enter Try.func93, Try.ntmps93
  go_wp2_with (first
    | (at_builtin; refine ev_append1 B rfl (.tmp 11) (.tmp 15) 111 164 _ 4 48 rfl Try.underlying111 infoPart rfl (by decide) (by decide) _ n (pcells M.opn.reverse vs) [.bool b, .int .i64 (i : Int), .int .i64 0, .slice none 0 0] rfl rfl rfl (by simp [Value.oneCell']) H3.out hB (by omega) ?_)
    | go_in)
  intro g1 c1' w1 ho hg hat
  have hne : some a ≠ (Value.slice A n c).ownBlock := own_ne H3.out H1.out (by decide)
  have hblk : w1.heap[a]? = w.heap[a]? := hg.block a hlt hne
  have hs1 := hg.size
  obtain ⟨W2, hW2⟩ : ∃ W2, W2 = w1.setCell ⟨a, 1, none⟩ (.slice (some ⟨g1, 0, none⟩) (n + 1) c1') := ⟨_, rfl⟩
  have hb2 : Hid (W2.heap[a]? = some (.cells #[.slice (some ⟨tb, 0, none⟩) M.to.length tc, .slice (some ⟨g1, 0, none⟩) (n + 1) c1', .int .i64 (M.deep : Int)] 113)) := by
    show _ = _
    rw [hW2, blk_set (hblk.trans H1.out) 1]
    rfl
  have d1 := blk_cell hb2.out 1
  have d2 := blk_cell hb2.out 2
  have e2 := blk_free hb2.out 2
  simp at d1 d2
  have hga : g1 ≠ a := fun e => by
    rcases hat with h | h
    · exact hne (by rw [h, e])
    · omega
  have HB1 : Hid (Below B w W2) := by
    rw [hW2]
    exact ((Below.refl B w).grown hg hB (fun k hk => (H3.out.lt k hk).1)).setCell h0 _
  have HO : Hid (W2.ownsRow B 164 4 (.slice (some ⟨g1, 0, none⟩) (n + 1) c1') (n + 1) (pcells (M.begin i b).opn.reverse (vs ++ [.slice none 0 0]))) := by
    show World.ownsRow _ _ _ _ _ _ _
    rw [hW2]
    have e : pcells (M.begin i b).opn.reverse (vs ++ [.slice none 0 0]) = pcells M.opn.reverse vs ++ [.bool b, .int .i64 (i : Int), .int .i64 0, .slice none 0 0] := by
      show pcells (⟨b, i, 0, []⟩ :: M.opn).reverse _ = _
      rw [List.reverse_cons, pcells_append _ _ _ _ (by rw [List.length_reverse]; exact H4.out)]
      rfl
    rw [e]
    exact own_other ho (by simpa [Value.ownBlock] using hga) _
  have HT : Hid (W2.ownsRow B 3 1 (.slice (some ⟨tb, 0, none⟩) M.to.length tc) M.to.length (icells M.to)) := by
    show World.ownsRow _ _ _ _ _ _ _
    rw [hW2]
    have k1 := H2.out.kept hg (.inr (fun e => by
      obtain ⟨cs, hcs⟩ := own_blk H2.out tb rfl
      exact own_ne H3.out hcs (by decide) e))
    exact own_other k1 (fun e => by
      obtain ⟨cs, hcs⟩ := own_blk H2.out tb rfl
      have : tb = a := by simpa [Value.ownBlock] using e
      rw [this, H1.out] at hcs
      injection hcs with hcs
      injection hcs with _ h3
      exact absurd h3 (by decide)) _
  have HL : Hid (∀ (k : Nat) (p : Pt) (v : Value), (M.begin i b).opn.reverse[k]? = some p → (vs ++ [Value.slice none 0 0])[k]? = some v → W2.ownsRow B 3 1 v p.lvs.length (icells (p.lvs.map Int.ofNat))) := fun k p v hp hv => by
    have hp' : (M.opn.reverse ++ [(⟨b, i, 0, []⟩ : Pt)])[k]? = some p := by rw [← List.reverse_cons]; exact hp
    have hvl : vs.length = M.opn.reverse.length := by rw [List.length_reverse]; exact H4.out
    by_cases hk : k < vs.length
    · rw [List.getElem?_append_left (by omega)] at hp'
      rw [List.getElem?_append_left hk] at hv
      have k0 := H5.out k p v hp' hv
      rw [hW2]
      have k1 := k0.kept hg (by
        cases hv2 : v.ownBlock with
        | none => exact .inl rfl
        | some q =>
          refine .inr (fun e => ?_)
          obtain ⟨cs, hcs⟩ := own_blk k0 q hv2
          exact own_ne H3.out hcs (by decide) e)
      exact own_other k1 (fun e => by
        obtain ⟨cs, hcs⟩ := own_blk k0 a e
        rw [H1.out] at hcs
        injection hcs with hcs
        injection hcs with _ h3
        exact absurd h3 (by decide)) _
    · have hk2 : k = vs.length := by
        have := (List.getElem?_eq_some_iff.1 hv).1
        simp at this
        omega
      subst hk2
      rw [List.getElem?_append_right (Nat.le_refl _)] at hv
      rw [List.getElem?_append_right (by omega), ← hvl] at hp'
      simp at hv hp'
      subst hv hp'
      exact World.ownsRow_nil _ _ _ _
  have HA : Hid (Apart (some tb :: (vs ++ [Value.slice none 0 0]).map Value.ownBlock)) := by
    show List.Pairwise _ _
    rw [List.map_append, ← List.cons_append, List.pairwise_append]
    refine ⟨H6.out, by simp, fun x hx y hy e => ?_⟩
    simp [Value.ownBlock] at hy
    rw [e, hy]
  have hs2 : a < W2.heap.size := blk_lt hb2.out
  have hmax : ∀ W : World, (Builtin.max_ #[3, 3] 3 #[.int .i64 (M.deep : Int), .int .i64 ((n : Int) + 1)]).run Try.prog W = .ok (.int .i64 (((M.begin i b).deep : Nat) : Int)) W := fun W => run_max _ _ _ _ _ _ (by
    show (if (M.deep : Int) < (n : Int) + 1 then (n : Int) + 1 else (M.deep : Int)) = ((max M.deep (M.opn.length + 1) : Nat) : Int)
    rw [← HN.out]
    split <;> omega) W
  have k1 := blk_cell (hblk.trans H1.out) 1
  have k1f := blk_free (hblk.trans H1.out) 1
  simp at k1
  clear ho hg hat hne hblk hga c0 c1 c2 f1 f2
  go_wp2
  rw [← hW2]
  clear hW2
  go_region
  go_wp2
  go_ret
  refine ⟨by congr 2; simp; omega, ?_, ?_⟩
  · exact below_drewN' (HB1.out.setCell h0 _) 1
  · have hnt : ∀ k, (∃ cs, W2.heap[k]? = some (.cells cs 3 (0, 0))) → k ≠ a := fun k ⟨cs, hcs⟩ e => by
      rw [e, hb2.out] at hcs
      injection hcs with hcs
      injection hcs with _ h3
      exact absurd h3 (by decide)
    refine ⟨tb, tc, .slice (some ⟨g1, 0, none⟩) (n + 1) c1', vs ++ [.slice none 0 0], h0, ?_, ?_, ?_, ?_, ?_, HA.out⟩
    · show (W2.setCell ⟨a, 2, none⟩ _).heap[a]? = _
      rw [blk_set hb2.out 2]
      rfl
    · exact own_other HT.out (fun e => hnt a (own_blk HT.out a e) rfl) _
    · have e : (M.begin i b).opn.length = n + 1 := by show (_ :: M.opn).length = _; rw [List.length_cons, HN.out]
      rw [e]
      exact own_other HO.out (own_ne HO.out hb2.out (by decide)).symm _
    · show (vs ++ [_]).length = (_ :: M.opn).length
      simp [H4.out]
    · intro k p v hp hv
      have k0 := HL.out k p v hp hv
      exact own_other k0 (fun e => hnt a (own_blk k0 a e) rfl) _
/-- the matcher with its blocks named -/
structure MA (w : World) (B a tb tc : Nat) (vo : Value) (vs : List Value) (M : Ms) : Prop where
  ge : B ≤ a
  blk : w.heap[a]? = some (.cells #[.slice (some ⟨tb, 0, none⟩) M.to.length tc, vo, .int .i64 (M.deep : Int)] 113)
  to : w.ownsRow B 3 1 (.slice (some ⟨tb, 0, none⟩) M.to.length tc) M.to.length (icells M.to)
  opn : w.ownsRow B 164 4 vo M.opn.length (pcells M.opn.reverse vs)
  len : vs.length = M.opn.length
  lvs : ∀ (k : Nat) (p : Pt) (v : Value), M.opn.reverse[k]? = some p → vs[k]? = some v → w.ownsRow B 3 1 v p.lvs.length (icells (p.lvs.map Int.ofNat))
  apart : Apart (some tb :: vs.map Value.ownBlock)
theorem MAt.ma {w : World} {B a : Nat} {M : Ms} (h : MAt w B a M) : ∃ tb tc vo vs, MA w B a tb tc vo vs M := by
  obtain ⟨tb, tc, vo, vs, h0, h1, h2, h3, h4, h5, h6⟩ := h
  exact ⟨tb, tc, vo, vs, h0, h1, h2, h3, h4, h5, h6⟩
theorem MA.mat {w : World} {B a tb tc : Nat} {vo : Value} {vs : List Value} {M : Ms} (h : MA w B a tb tc vo vs M) : MAt w B a M := ⟨tb, tc, vo, vs, h.ge, h.blk, h.to, h.opn, h.len, h.lvs, h.apart⟩
theorem blk_type {w : World} {k : Nat} {cs cs' : Array Value} {t t' : TypeId} {f f' : Nat × Nat} (h : w.heap[k]? = some (.cells cs t f)) (h' : w.heap[k]? = some (.cells cs' t' f')) : t = t' := by
  rw [h] at h'
  injection h' with h'
  injection h' with _ h3
theorem MA.keep {w w' : World} {B a tb tc : Nat} {vo : Value} {vs : List Value} {M : Ms} (h : MA w B a tb tc vo vs M) (hk : ∀ k, k < w.heap.size → w'.heap[k]? = w.heap[k]?) : MA w' B a tb tc vo vs M :=
  ⟨h.ge, (hk a (blk_lt h.blk)).trans h.blk, own_move' h.to (fun k e => hk k (h.to.lt k e).2), own_move' h.opn (fun k e => hk k (h.opn.lt k e).2), h.len, fun k p v hp hv => own_move' (h.lvs k p v hp hv) (fun j e => hk j ((h.lvs k p v hp hv).lt j e).2), h.apart⟩
theorem MA.drew {w : World} {B a tb tc : Nat} {vo : Value} {vs : List Value} {M : Ms} (h : MA w B a tb tc vo vs M) : MA w.drew B a tb tc vo vs M := h.keep (fun _ _ => rfl)
theorem MA.qt {w w' : World} {B a tb tc : Nat} {vo : Value} {vs : List Value} {M : Ms} (h : MA w B a tb tc vo vs M) (hq : Qt w w') : MA w' B a tb tc vo vs M := h.keep (fun k _ => hq.heap k)
theorem MA.lv_ne {w : World} {B a tb tc : Nat} {vo : Value} {vs : List Value} {M : Ms} (h : MA w B a tb tc vo vs M) {v : Value} (hv : v ∈ vs) : v.ownBlock ≠ some tb := fun e => by
  have := (List.pairwise_cons.1 h.apart).1 v.ownBlock (List.mem_map_of_mem hv)
  exact absurd (this e.symm) (by simp)
/-- a number of 'to' turned -/
theorem MA.setTo {w : World} {B a tb tc : Nat} {vo : Value} {vs : List Value} {M : Ms} (h : MA w B a tb tc vo vs M) (k : Nat) (hk : k < M.to.length) (v : Int) : MA (w.setCell ⟨tb, k, none⟩ (.int .i64 v)) B a tb tc vo vs ⟨M.to.set k v, M.opn, M.deep⟩ := by
  obtain ⟨cs, hcs⟩ := own_blk h.to tb rfl
  have hat : a ≠ tb := fun e => absurd (blk_type (e ▸ h.blk) hcs) (by decide)
  refine ⟨h.ge, ?_, ?_, ?_, h.len, fun j p u hp hu => ?_, h.apart⟩
  · rw [Below.heap_setCell _ _ _ _ hat, List.length_set]
    exact h.blk
  · have := own_set h.to k (by omega) (.int .i64 v)
    rw [icells_set] at this
    rw [List.length_set]
    exact this
  · refine own_other h.opn (fun e => ?_) _
    obtain ⟨cs', hcs'⟩ := own_blk h.opn tb e
    exact absurd (blk_type hcs hcs') (by decide)
  · exact own_other (h.lvs j p u hp hu) (h.lv_ne (List.mem_of_getElem? hu)) _
/-- the row of open parts is another slice of its block -/
theorem MA.setOpn {w : World} {B a tb tc : Nat} {vo vo' : Value} {vs vs' : List Value} {M : Ms} (h : MA w B a tb tc vo vs M) (o : List Pt) (ho : w.ownsRow B 164 4 vo' o.length (pcells o.reverse vs')) (hl : vs'.length = o.length) (hsub : ∀ (k : Nat) (p : Pt) (v : Value), o.reverse[k]? = some p → vs'[k]? = some v → M.opn.reverse[k]? = some p ∧ vs[k]? = some v) (hap : Apart (some tb :: vs'.map Value.ownBlock)) :
    MA (w.setCell ⟨a, 1, none⟩ vo') B a tb tc vo' vs' ⟨M.to, o, M.deep⟩ := by
  have hn : ∀ {v : Value} {n : Nat} {xs : List Value}, w.ownsRow B 3 1 v n xs → v.ownBlock ≠ some a := fun {v n xs} h2 e => by
    obtain ⟨cs, hcs⟩ := own_blk h2 a e
    exact absurd (blk_type hcs h.blk) (by decide)
  refine ⟨h.ge, ?_, own_other h.to (hn h.to) _, own_other ho (own_ne ho h.blk (by decide)).symm _, hl, fun k p v hp hv => ?_, hap⟩
  · rw [blk_set h.blk 1]
    rfl
  · obtain ⟨h1, h2⟩ := hsub k p v hp hv
    exact own_other (h.lvs k p v h1 h2) (hn (h.lvs k p v h1 h2)) _
theorem apart_sub {l : List (Option Nat)} {a b : List (Option Nat)} (h : Apart (l ++ (a ++ b))) : Apart (l ++ a) := by
  unfold Apart at *
  rw [← List.append_assoc] at h
  exact (List.pairwise_append.1 h).1
theorem MA.pop {w : World} {B a tb tc g c : Nat} {vs : List Value} {M : Ms} {p : Pt} {q : List Pt} (h : MA w B a tb tc (.slice (some ⟨g, 0, none⟩) (q.length + 1) c) vs M) (ho : M.opn = p :: q) :
    ∃ vs', MA (w.setCell ⟨a, 1, none⟩ (.slice (some ⟨g, 0, none⟩) q.length c)) B a tb tc (.slice (some ⟨g, 0, none⟩) q.length c) vs' ⟨M.to, q, M.deep⟩ := by
  have hl := h.len
  rw [ho] at hl
  obtain ⟨vs0, v, rfl⟩ : ∃ vs0 v, vs = vs0 ++ [v] := by
    rcases List.eq_nil_or_concat vs with rfl | ⟨x, y, rfl⟩
    · simp at hl
    · exact ⟨x, y, by simp⟩
  have hl0 : vs0.length = q.length := by simpa using hl
  have hop := h.opn
  rw [ho, List.reverse_cons, pcells_append _ _ _ _ (by rw [List.length_reverse]; exact hl0), List.length_cons] at hop
  refine ⟨vs0, h.setOpn q (ownsRow_pop (by rw [pcells_length _ _ (by rw [List.length_reverse]; exact hl0), List.length_reverse]) hop) hl0 (fun k x u hx hu => ?_) ?_⟩
  · have hk := (List.getElem?_eq_some_iff.1 hu).1
    rw [ho, List.reverse_cons, List.getElem?_append_left (by rw [List.length_reverse]; omega), List.getElem?_append_left hk]
    exact ⟨hx, hu⟩
  · have := h.apart
    rw [List.map_append] at this
    exact apart_sub (l := [some tb]) this
/-- the cells of the innermost open part -/
theorem MA.top {w : World} {B a tb tc : Nat} {vo : Value} {vs : List Value} {M : Ms} {p : Pt} {q : List Pt} (h : MA w B a tb tc vo vs M) (ho : M.opn = p :: q) :
    ∃ g c vs0 v, vo = .slice (some ⟨g, 0, none⟩) (q.length + 1) c ∧ q.length + 1 ≤ c ∧ vs = vs0 ++ [v] ∧ vs0.length = q.length ∧ w.cell? ⟨g, q.length * 4, none⟩ = some (.bool p.loop) ∧ w.cell? ⟨g, q.length * 4 + 1, none⟩ = some (.int .i64 (p.frm : Int)) ∧ w.cell? ⟨g, q.length * 4 + 2, none⟩ = some (.int .i64 (p.oth : Int)) ∧ w.cell? ⟨g, q.length * 4 + 3, none⟩ = some v ∧
      (∀ o, w.frozen? ⟨g, o, none⟩ = false) ∧ w.ownsRow B 3 1 v p.lvs.length (icells (p.lvs.map Int.ofNat)) ∧ g ≠ a ∧ g ≠ tb := by
  have hl := h.len
  rw [ho] at hl
  obtain ⟨vs0, v, rfl⟩ : ∃ vs0 v, vs = vs0 ++ [v] := by
    rcases List.eq_nil_or_concat vs with rfl | ⟨x, y, rfl⟩
    · simp at hl
    · exact ⟨x, y, by simp⟩
  have hl0 : vs0.length = q.length := by simpa using hl
  have hop := h.opn
  rw [ho] at hop
  obtain ⟨A, c, rfl⟩ := own_form hop
  have hcap := hop.2
  obtain ⟨g, rfl, hg1, hg2⟩ := own_some hop (by simp)
  have hp : (p :: q).reverse[q.length]? = some p := by rw [List.reverse_cons, List.getElem?_append_right (by simp)]; simp
  have hv : (vs0 ++ [v])[q.length]? = some v := by rw [List.getElem?_append_right (by omega)]; simp [hl0]
  have hc : ∀ j, j < 4 → ∀ u, (pcell p v)[j]? = some u → w.cell? ⟨g, q.length * 4 + j, none⟩ = some u := fun j hj u hu => own_cell hop _ _ ((pcells_get _ _ _ p v hp hv j hj).trans hu)
  have hle : q.length + 1 ≤ c := by
    rcases hcap with ⟨h1, _⟩ | ⟨_, _, _, h1, _, _, h2, _⟩
    · cases h1
    · cases h1; simpa using h2
  refine ⟨g, c, vs0, v, rfl, hle, rfl, hl0, hc 0 (by decide) _ rfl, hc 1 (by decide) _ rfl, hc 2 (by decide) _ rfl, hc 3 (by decide) _ rfl, own_free hop, h.lvs q.length p v (by rw [ho]; exact hp) hv, ?_, ?_⟩
  · rintro rfl
    obtain ⟨cs, hcs⟩ := own_blk hop g rfl
    exact absurd (blk_type hcs h.blk) (by decide)
  · rintro rfl
    obtain ⟨cs, hcs⟩ := own_blk hop g rfl
    obtain ⟨cs', hcs'⟩ := own_blk h.to g rfl
    exact absurd (blk_type hcs hcs') (by decide)
theorem m_top_nil {w : World} {B a tb tc : Nat} {vo : Value} {vs : List Value} {M : Ms} (h : MA w B a tb tc vo vs M) (ho : M.opn = []) :
    Calls Try.prog 99 #[.pointer (some ⟨a, 0, none⟩)] w fun e w' => e = .returned (.pointer none) ∧ Qt w w' := by
  have c1 := blk_cell h.blk 1
  simp at c1
  have hop := h.opn
  rw [ho] at hop
  obtain ⟨A, c, rfl⟩ := own_form hop
  have H := Lib.hid h
  clear h hop
  simp at c1
  go_enter Try.func99, Try.ntmps99
  go_wp2
  go_ret
  exact ⟨rfl, Qt.refl _⟩
theorem m_top_cons {w : World} {B a tb tc g c : Nat} {vs : List Value} {M : Ms} {p : Pt} {q : List Pt} (h : MA w B a tb tc (.slice (some ⟨g, 0, none⟩) (q.length + 1) c) vs M) (ho : M.opn = p :: q) (h16 : q.length ≤ 16) :
    Calls Try.prog 99 #[.pointer (some ⟨a, 0, none⟩)] w fun e w' => e = .returned (.pointer (some ⟨g, q.length * 4, none⟩)) ∧ Qt w w' := by
  have c1 := blk_cell h.blk 1
  simp at c1
  have H := Lib.hid h
  have HO := Lib.hid ho
  generalize hm : q.length = m at *
  have HM := Lib.hid hm
  clear h ho hm
  have hlt : (m : Int) < (m : Int) + 1 := by omega
  go_enter Try.func99, Try.ntmps99
  go_wp2_with (fail)
  go_quiet (fail)
  go_wp2

  go_ret
  exact ⟨rfl, (Qt.refl _).step _⟩
/-- one cell of one open part turned -/
theorem MA.setPart {w : World} {B a tb tc g c : Nat} {vs : List Value} {M : Ms} {X Y : List Pt} {p p' : Pt} {v v' u : Value} {j : Nat} (h : MA w B a tb tc (.slice (some ⟨g, 0, none⟩) M.opn.length c) vs M) (ho : M.opn = X ++ p :: Y) (hv : vs[Y.length]? = some v) (hj : j < 4) (hs : (pcell p v).set j u = pcell p' v') (hlv : w.ownsRow B 3 1 v' p'.lvs.length (icells (p'.lvs.map Int.ofNat))) (hap : Apart (some tb :: (vs.set Y.length v').map Value.ownBlock)) :
    MA (w.setCell ⟨g, Y.length * 4 + j, none⟩ u) B a tb tc (.slice (some ⟨g, 0, none⟩) M.opn.length c) (vs.set Y.length v') ⟨M.to, X ++ p' :: Y, M.deep⟩ := by
  have hl : (X ++ p' :: Y).length = M.opn.length := by rw [ho]; simp
  have hk : M.opn.reverse[Y.length]? = some p := by
    rw [ho, List.reverse_append, List.reverse_cons, List.append_assoc, List.getElem?_append_right (by simp)]
    simp
  have hrev : (X ++ p' :: Y).reverse = M.opn.reverse.set Y.length p' := by
    rw [ho]
    simp only [List.reverse_append, List.reverse_cons, List.append_assoc]
    rw [List.set_append_right _ _ (by simp)]
    simp
  have hga : ∀ {x : Value} {n : Nat} {xs : List Value}, w.ownsRow B 3 1 x n xs → x.ownBlock ≠ some g := fun {x n xs} h2 e => by
    obtain ⟨cs, hcs⟩ := own_blk h2 g e
    obtain ⟨cs', hcs'⟩ := own_blk h.opn g rfl
    exact absurd (blk_type hcs hcs') (by decide)
  refine ⟨h.ge, ?_, own_other h.to (hga h.to) _, ?_, by rw [List.length_set, hl]; exact h.len, fun k x y hx hy => ?_, hap⟩
  · rw [Below.heap_setCell _ _ _ _ (fun e => ?_)]
    · exact h.blk
    · obtain ⟨cs', hcs'⟩ := own_blk h.opn g rfl
      have e' : a = g := e
      rw [← e'] at hcs'
      exact absurd (blk_type h.blk hcs') (by decide)
  · rw [hl, hrev, ← pcells_set _ _ _ p p' v v' j u hk hv hj hs]
    refine own_set h.opn _ ?_ _
    have : Y.length < M.opn.length := by rw [ho, List.length_append, List.length_cons]; omega
    omega
  · rw [hrev, List.getElem?_set] at hx
    rw [List.getElem?_set] at hy
    by_cases hkk : Y.length = k
    · have h1 : Y.length < M.opn.reverse.length := by rw [List.length_reverse, ho, List.length_append, List.length_cons]; omega
      have h2 : Y.length < vs.length := by rw [h.len, ho, List.length_append, List.length_cons]; omega
      rw [if_pos hkk, if_pos h1] at hx
      rw [if_pos hkk, if_pos h2] at hy
      simp at hx hy
      subst hx hy
      exact own_other hlv (hga hlv) _
    · rw [if_neg hkk] at hx hy
      exact own_other (h.lvs k x y hx hy) (hga (h.lvs k x y hx hy)) _
theorem MA.setOth {w : World} {B a tb tc g c : Nat} {vs : List Value} {M : Ms} {p : Pt} {q : List Pt} (h : MA w B a tb tc (.slice (some ⟨g, 0, none⟩) (q.length + 1) c) vs M) (ho : M.opn = p :: q) (i : Nat) :
    MA (w.setCell ⟨g, q.length * 4 + 2, none⟩ (.int .i64 (i : Int))) B a tb tc (.slice (some ⟨g, 0, none⟩) (q.length + 1) c) vs ⟨M.to, ⟨p.loop, p.frm, i, p.lvs⟩ :: q, M.deep⟩ := by
  obtain ⟨g', c', vs0, v, e1, _, rfl, h2, _, _, _, _, _, h3, _, _⟩ := h.top ho
  have hl : M.opn.length = q.length + 1 := by rw [ho]; rfl
  have hv : (vs0 ++ [v])[q.length]? = some v := by rw [List.getElem?_append_right (by omega)]; simp [h2]
  have hset : (vs0 ++ [v]).set q.length v = vs0 ++ [v] := List.set_getElem_self (List.getElem?_eq_some_iff.1 hv).1 |> fun e => by rw [(List.getElem?_eq_some_iff.1 hv).2] at e; exact e
  rw [← hl] at h ⊢
  have := h.setPart (X := []) (Y := q) (p := p) (p' := ⟨p.loop, p.frm, i, p.lvs⟩) (v := v) (v' := v) (u := .int .i64 (i : Int)) (j := 2) ho hv (by decide) rfl h3 (by rw [hset]; exact h.apart)
  rw [hset] at this
  exact this
def Ms.small (M : Ms) : Prop := M.opn.length ≤ M.deep ∧ M.deep ≤ 16
theorem to_cell {w : World} {B tb tc : Nat} {to : List Int} (h : w.ownsRow B 3 1 (.slice (some ⟨tb, 0, none⟩) to.length tc) to.length (icells to)) (k : Nat) (hk : k < to.length) : ∃ x : Int, w.cell? ⟨tb, k, none⟩ = some (.int .i64 x) ∧ w.frozen? ⟨tb, k, none⟩ = false := by
  refine ⟨to[k], own_cell h k _ ?_, own_free h k⟩
  rw [icells_get, List.getElem?_eq_getElem hk]
  rfl
set_option maxHeartbeats 2000000 in
theorem m_other {w : World} {B a : Nat} {M : Ms} (h : MAt w B a M) (i : Nat) (hi : i < M.to.length) (hm : M.to.length ≤ 1000000) (h16 : M.opn.length ≤ 16) (hw : ∀ p ∈ M.opn, p.frm < M.to.length) (hB : B ≤ w.heap.size) :
    Calls Try.prog 94 #[.pointer (some ⟨a, 0, none⟩), .int .i64 (i : Int)] w fun e w' => e = .returned (.bool (M.other i).isSome) ∧ Below B w w' ∧ ∀ M', M.other i = some M' → MAt w' B a M' := by
  obtain ⟨tb, tc, vo, vs, h⟩ := h.ma
  cases ho : M.opn with
  | nil =>
    have e : M.other i = none := by unfold Ms.other; rw [ho]
    rw [e]
    have H := Lib.hid h
    have HO := Lib.hid ho
    clear h ho e hw
    go_enter Try.func94, Try.ntmps94
    go_wp2_with (fail)
    refine (m_top_nil H.out HO.out).mono ?_
    rintro e w1 ⟨rfl, hq⟩
    have hq := Lib.hid hq
    go_wp2
    go_ret
    exact ⟨rfl, hq.out.below.mono (by exact hB), fun M' h => by cases h⟩
  | cons p q =>
    obtain ⟨g, c, vs0, v, rfl, hcap, rfl, hl0, k0, k1, k2, k3, hfr, hlv, hga, hgt⟩ := h.top ho
    have hfrm := hw p (by rw [ho]; exact List.mem_cons_self ..)
    rw [ho] at h16
    simp at h16
    have hl16 : q.length ≤ 16 := by omega
    have HT := Lib.hid (m_top_cons h ho hl16)
    have fr2 := hfr (q.length * 4 + 2)
    obtain ⟨x, t0, tf⟩ := to_cell h.to p.frm hfrm
    have b0 := blk_cell h.blk 0
    simp at b0
    have H := Lib.hid h
    have HO := Lib.hid ho
    obtain ⟨n, hn⟩ : ∃ n, n = M.to.length := ⟨_, rfl⟩
    rw [← hn] at b0 hi hm hfrm
    have hE : Hid (M.other i = if p.loop = true ∨ p.oth > 0 then none else some ⟨M.to.set p.frm ((i : Int) + 1), ⟨p.loop, p.frm, i, p.lvs⟩ :: q, M.deep⟩) := by show _ = _; unfold Ms.other; rw [ho]
    have HQ : Hid (∀ w1, Qt w w1 → w1.cell? ⟨g, q.length * 4, none⟩ = some (.bool p.loop) ∧ w1.cell? ⟨g, q.length * 4 + 1, none⟩ = some (.int .i64 (p.frm : Int)) ∧ w1.cell? ⟨g, q.length * 4 + 2, none⟩ = some (.int .i64 (p.oth : Int)) ∧ w1.frozen? ⟨g, q.length * 4 + 2, none⟩ = false ∧ w1.cell? ⟨tb, p.frm, none⟩ = some (.int .i64 x) ∧ w1.frozen? ⟨tb, p.frm, none⟩ = false ∧ w1.cell? ⟨a, 0, none⟩ = some (.slice (some ⟨tb, 0, none⟩) n tc)) := fun w1 hq =>
      ⟨(hq.cell _).trans k0, (hq.cell _).trans k1, (hq.cell _).trans k2, (World.frozen?_of_block (hq.heap _)).trans fr2, (hq.cell _).trans t0, (World.frozen?_of_block (hq.heap _)).trans tf, (hq.cell _).trans b0⟩
    have HN := Lib.hid hn
    clear h ho hw k0 k1 k2 k3 hfr hlv fr2 t0 tf b0 hn
    by_cases hlo : p.loop = true
    · rw [show (M.other i) = none by rw [hE.out, if_pos (.inl hlo)]]
      go_enter Try.func94, Try.ntmps94
      go_wp2_with (fail)
      refine HT.out.mono ?_
      rintro e w1 ⟨rfl, hq⟩
      obtain ⟨k0, k1, k2, fr2, t0, tf, b0⟩ := HQ.out w1 hq
      rw [hlo] at k0
      have hq := Lib.hid hq
      have hlo := Lib.hid hlo
      go_wp2
      go_ret
      exact ⟨rfl, hq.out.below.mono (by exact hB), fun M' h => by cases h⟩
    · have hlo' : p.loop = false := by simpa using hlo
      by_cases hoth : p.oth > 0
      · rw [show (M.other i) = none by rw [hE.out, if_pos (.inr hoth)]]
        go_enter Try.func94, Try.ntmps94
        go_wp2_with (fail)
        refine HT.out.mono ?_
        rintro e w1 ⟨rfl, hq⟩
        obtain ⟨k0, k1, k2, fr2, t0, tf, b0⟩ := HQ.out w1 hq
        rw [hlo'] at k0
        have hq := Lib.hid hq
        have hlo := Lib.hid hlo
        clear hlo'
        go_wp2
        go_ret
        exact ⟨rfl, hq.out.below.mono (by exact hB), fun M' h => by cases h⟩
      · have h0 : p.oth = 0 := by omega
        rw [show (M.other i) = some ⟨M.to.set p.frm ((i : Int) + 1), ⟨p.loop, p.frm, i, p.lvs⟩ :: q, M.deep⟩ by rw [hE.out, if_neg (by rintro (h | h) <;> contradiction)]]
        have hx : (p.frm : Int) < (n : Int) := by omega
        go_enter Try.func94, Try.ntmps94
        go_wp2_with (fail)
        refine HT.out.mono ?_
        rintro e w1 ⟨rfl, hq⟩
        obtain ⟨k0, k1, k2, fr2, t0, tf, b0⟩ := HQ.out w1 hq
        rw [hlo'] at k0
        rw [h0] at k2
        have hm1 := Lib.hid (((H.out.qt hq).setOth HO.out i).drew.setTo p.frm (by show p.frm < M.to.length; rw [← HN.out]; exact hfrm) ((i : Int) + 1))
        have hb1 := Lib.hid (hq.below.mono hB)
        have hlo := Lib.hid hlo
        have hga := Lib.hid hga
        have hgt := Lib.hid hgt
        clear hlo' h0 hq
        go_wp2
        obtain ⟨W2, hW2⟩ : ∃ W2, W2 = w1.setCell ⟨g, q.length * 4 + 2, none⟩ (.int .i64 (i : Int)) := ⟨_, rfl⟩
        have e0 : W2.cell? ⟨a, 0, none⟩ = some (.slice (some ⟨tb, 0, none⟩) n tc) := by
          rw [hW2, World.cell?_of_block (Below.heap_setCell _ _ _ _ (show a ≠ g from fun e => hga.out e.symm))]
          exact b0
        have e1 : W2.cell? ⟨g, q.length * 4 + 1, none⟩ = some (.int .i64 (p.frm : Int)) := by
          rw [hW2, World.cell?_setCell_other _ _ _ _ (by simp)]
          exact k1
        have e2 : W2.cell? ⟨tb, p.frm, none⟩ = some (.int .i64 x) := by
          rw [hW2, World.cell?_of_block (Below.heap_setCell _ _ _ _ (show tb ≠ g from fun e => hgt.out e.symm))]
          exact t0
        have e3 : W2.frozen? ⟨tb, p.frm, none⟩ = false := by
          rw [hW2, World.frozen?_setCell]
          exact tf
        have hb2 : Hid (Below B w W2) := by
          rw [hW2]
          exact hb1.out.setCell (H.out.opn.lt g rfl).1 _
        rw [← hW2] at hm1 ⊢
        clear hW2 k0 k1 k2 fr2 t0 tf b0 hb1
        go_region
        all_goals
          go_wp2

          go_ret
          refine ⟨rfl, below_drewN' (hb2.out.setCell (H.out.to.lt tb rfl).1 _) 1, fun M' hM' => ?_⟩
          cases hM'
          exact hm1.out.mat
end Go.Proofs.Ytdbhhnphpjdmbaa
