/- Contracts of the matcher's methods: leave. -/
import Derived.Test.YtdbhhnphpjdmbaaNestC
import Derived.Deep.RegionLaw
namespace Go.Proofs.Ytdbhhnphpjdmbaa
open Go.RowKit
set_option maxRecDepth 100000
set_option linter.unusedVariables false
set_option linter.unusedSimpArgs false
theorem leaveIn_past (i : Nat) : ∀ (X Y : List Pt), (∀ q ∈ X, q.loop = false) → leaveIn i (X ++ Y) = (leaveIn i Y).map (X ++ ·)
  | [], Y, _ => by cases h : leaveIn i Y <;> simp [h]
  | p :: X, Y, h => by
    have e : leaveIn i (p :: (X ++ Y)) = (leaveIn i (X ++ Y)).map (p :: ·) := by
      conv => lhs; unfold leaveIn
      rw [if_neg (by simp [h p (List.mem_cons_self ..)])]
    rw [List.cons_append, e, leaveIn_past i X Y (fun q hq => h q (List.mem_cons_of_mem _ hq))]
    cases leaveIn i Y <;> rfl
theorem news1 (w : World) (u : Value) (t : TypeId) : ∀ j x, [u][j]? = some x → ((w.alloc (.cells #[u] t)).drew).cell? ((⟨w.heap.size, 0, none⟩ : Addr).add j) = some x := fun j x hx => by
  have h := lit_rd w [u] t
  obtain ⟨ad, e, hc⟩ := h (by simp)
  cases e
  exact hc j x hx
theorem MA.cell {w : World} {B a tb tc g c : Nat} {vs : List Value} {M : Ms} {X Y : List Pt} {p : Pt} (h : MA w B a tb tc (.slice (some ⟨g, 0, none⟩) M.opn.length c) vs M) (ho : M.opn = X ++ p :: Y) : ∃ v, vs[Y.length]? = some v ∧ w.cell? ⟨g, Y.length * 4, none⟩ = some (.bool p.loop) ∧ w.cell? ⟨g, Y.length * 4 + 3, none⟩ = some v ∧ w.ownsRow B 3 1 v p.lvs.length (icells (p.lvs.map Int.ofNat)) ∧ (∀ o, w.frozen? ⟨g, o, none⟩ = false) := by
  have hk : M.opn.reverse[Y.length]? = some p := by
    rw [ho, List.reverse_append, List.reverse_cons, List.append_assoc, List.getElem?_append_right (by simp)]
    simp
  have hlt : Y.length < vs.length := by rw [h.len, ho, List.length_append, List.length_cons]; omega
  have hv : vs[Y.length]? = some vs[Y.length] := List.getElem?_eq_getElem hlt
  have hc : ∀ j, j < 4 → ∀ u, (pcell p vs[Y.length])[j]? = some u → w.cell? ⟨g, Y.length * 4 + j, none⟩ = some u := fun j hj u hu => own_cell h.opn _ _ ((pcells_get _ _ _ p _ hk hv j hj).trans hu)
  exact ⟨_, hv, hc 0 (by decide) _ rfl, hc 3 (by decide) _ rfl, h.lvs _ p _ hk hv, own_free h.opn⟩
/-- in a region that draws: one element behind an owned row; its box has just been made -/
theorem step_app1 {P : Program} {ops : Array Oper} {o : Oper} {a : Act} {K : Act → World → Prop} {Q : Exit → Act → World → Prop} {E : Prop} {w : World} (hgd : o.guard = none) (s x : Operand) (t e : TypeId) (z : Value) (bytes : Nat) (B : Nat)
    (ho : o.op = .call { callee := .builtin .append, args := #[s, x], argTypes := #[t, t] }) (ht : P.underlying t = some (.slice e)) (hinfo : (P.info? e).map (fun i => (i.zero, i.size, i.bytes)) = some (some z, 1, bytes)) (hz : z.cells.size = 1)
    (v : Value) (n : Nat) (xs : List Value) (u : Value) (hs : a.eval s = v) (hx : a.eval x = .slice (some ⟨w.heap.size, 0, none⟩) 1 1) (hown : w.ownsRow B e 1 v n xs) (h1 : u.oneCell' = true) (hm : n + 1 ≤ maxLen) (hby : (n + 1) * bytes ≤ 140737488355328) (hB : B ≤ w.heap.size)
    (h : ∀ g cap w', w'.ownsRow B e 1 (.slice (some ⟨g, 0, none⟩) (n + 1) cap) (n + 1) (xs ++ [u]) → w.grownBy w' v.ownBlock → (v.ownBlock = some g ∨ w.heap.size ≤ g) → K (a.put o.dst (.slice (some ⟨g, 0, none⟩) (n + 1) cap)) w') :
    if Region.wanted o (yielded ops a.tmps) = true then Oper.wp P o a ((w.alloc (.cells #[u] e)).drew) K Q else E := by
  obtain ⟨i, e1, e2, e3, e4⟩ := info_parts hinfo
  refine step_append_lies (w := (w.alloc (.cells #[u] e)).drew) hgd s x t ho B e i z 1 bytes ht e1 e2 e3 e4 hz (by decide) v n xs hs (show World.ownsRow _ _ _ _ _ _ _ from hown.alloc _) ⟨w.heap.size, 0, none⟩ 1 1 [u] hx rfl (news1 w u e) (by simpa using h1) (by decide) hm hby (by show B ≤ (w.alloc _).heap.size; rw [World.size_alloc]; omega) (w.heap.size + 1) (World.size_alloc w _) ?_
  intro g cap w' ho' hg hat _
  refine h g cap w' ho' (World.grownBy.trans (b := w.alloc (.cells #[u] e)) (World.grownBy_alloc w _ _) ?_) ?_
  · exact ⟨hg.os, hg.tape, hg.output, hg.size, hg.block⟩
  · rcases hat with hat | hat
    · exact .inl hat
    · exact .inr (by omega)
/-- leaves of one open part got one more -/
theorem MA.setLvs {w w1 : World} {B a tb tc g c g1 c1 : Nat} {vs : List Value} {M : Ms} {X Y : List Pt} {p : Pt} {v : Value} {i : Nat} (h : MA w B a tb tc (.slice (some ⟨g, 0, none⟩) M.opn.length c) vs M) (ho : M.opn = X ++ p :: Y) (hv : vs[Y.length]? = some v)
    (hown : w1.ownsRow B 3 1 (.slice (some ⟨g1, 0, none⟩) (p.lvs.length + 1) c1) (p.lvs.length + 1) (icells (p.lvs.map Int.ofNat) ++ [.int .i64 (i : Int)])) (hg : w.grownBy w1 v.ownBlock) (hat : v.ownBlock = some g1 ∨ w.heap.size ≤ g1) :
    MA (w1.setCell ⟨g, Y.length * 4 + 3, none⟩ (.slice (some ⟨g1, 0, none⟩) (p.lvs.length + 1) c1)) B a tb tc (.slice (some ⟨g, 0, none⟩) M.opn.length c) (vs.set Y.length (.slice (some ⟨g1, 0, none⟩) (p.lvs.length + 1) c1)) ⟨M.to, X ++ ⟨p.loop, p.frm, p.oth, p.lvs ++ [i]⟩ :: Y, M.deep⟩ := by
  have hl : (X ++ (⟨p.loop, p.frm, p.oth, p.lvs ++ [i]⟩ : Pt) :: Y).length = M.opn.length := by rw [ho]; simp
  have hk : M.opn.reverse[Y.length]? = some p := by
    rw [ho, List.reverse_append, List.reverse_cons, List.append_assoc, List.getElem?_append_right (by simp)]
    simp
  have hrev : (X ++ (⟨p.loop, p.frm, p.oth, p.lvs ++ [i]⟩ : Pt) :: Y).reverse = M.opn.reverse.set Y.length ⟨p.loop, p.frm, p.oth, p.lvs ++ [i]⟩ := by
    rw [ho]
    simp only [List.reverse_append, List.reverse_cons, List.append_assoc]
    rw [List.set_append_right _ _ (by simp)]
    simp
  have hvr := h.lvs Y.length p v hk hv
  have hvl : Y.length < vs.length := by rw [h.len, ho, List.length_append, List.length_cons]; omega
  obtain ⟨co, hco⟩ := own_blk h.opn g rfl
  obtain ⟨ct, hct⟩ := own_blk h.to tb rfl
  -- the row of leaves lies in no block of another kind, nor in 'to'
  have hvn : ∀ {k : Nat} {cs : Array Value} {t : TypeId}, w.heap[k]? = some (.cells cs t (0, 0)) → t ≠ 3 → v.ownBlock ≠ some k := fun {k cs t} hc ht e => by
    obtain ⟨cs', hcs'⟩ := own_blk hvr k e
    exact ht (blk_type hc hcs')
  have hva : v.ownBlock ≠ some a := fun e => by
    obtain ⟨cs', hcs'⟩ := own_blk hvr a e
    exact absurd (blk_type h.blk hcs') (by decide)
  have hvg := hvn hco (by decide)
  have hvt : v.ownBlock ≠ some tb := h.lv_ne (List.mem_of_getElem? hv)
  have b1 : w1.heap[a]? = _ := (hg.block a (blk_lt h.blk) (fun e => hva e.symm)).trans h.blk
  have o1 := h.opn.kept hg (.inr (fun e => hvg e.symm))
  have t1 := h.to.kept hg (.inr (fun e => hvt e.symm))
  have g1ne : ∀ k, k < w.heap.size → v.ownBlock ≠ some k → g1 ≠ k := fun k hk hne e => by
    subst e
    rcases hat with hat | hat
    · exact hne hat
    · omega
  have g1g : g1 ≠ g := g1ne g (blk_lt hco) hvg
  have hga : ∀ {x : Value} {n : Nat} {xs : List Value}, w1.ownsRow B 3 1 x n xs → x.ownBlock ≠ some g := fun {x n xs} h2 e => by
    obtain ⟨cs, hcs⟩ := own_blk h2 g e
    obtain ⟨cs', hcs'⟩ := own_blk o1 g rfl
    exact absurd (blk_type hcs hcs') (by decide)
  have hpair : ∀ (k : Nat) (y : Value), k ≠ Y.length → vs[k]? = some y → y.ownBlock = v.ownBlock → y.ownBlock = none := fun k y hne hy e => by
    have hp := (List.pairwise_cons.1 h.apart).2
    rw [List.pairwise_map] at hp
    have hp2 := List.pairwise_iff_getElem.1 hp
    have k1 := (List.getElem?_eq_some_iff.1 hy)
    have k2 := (List.getElem?_eq_some_iff.1 hv)
    obtain ⟨k1, rfl⟩ := k1
    obtain ⟨k2, rfl⟩ := k2
    rcases Nat.lt_or_ge k Y.length with hlt | hge
    · exact hp2 k Y.length k1 k2 hlt e
    · have := hp2 Y.length k k2 k1 (by omega) e.symm
      rw [e]
      exact this
  refine ⟨h.ge, ?_, own_other t1 (hga t1) _, ?_, by rw [List.length_set, hl]; exact h.len, fun k x y hx hy => ?_, ?_⟩
  · rw [Below.heap_setCell _ _ _ _ (fun e => ?_)]
    · exact b1
    · have e' : a = g := e
      rw [← e'] at hco
      exact absurd (blk_type h.blk hco) (by decide)
  · rw [hl, hrev, ← pcells_set _ _ _ p ⟨p.loop, p.frm, p.oth, p.lvs ++ [i]⟩ v (.slice (some ⟨g1, 0, none⟩) (p.lvs.length + 1) c1) 3 _ hk hv (by decide) rfl]
    refine own_set o1 _ ?_ _
    have : Y.length < M.opn.length := by rw [ho, List.length_append, List.length_cons]; omega
    omega
  · rw [hrev, List.getElem?_set] at hx
    rw [List.getElem?_set] at hy
    by_cases hkk : Y.length = k
    · have h1 : Y.length < M.opn.reverse.length := by rw [List.length_reverse, ho, List.length_append, List.length_cons]; omega
      rw [if_pos hkk, if_pos h1] at hx
      rw [if_pos hkk, if_pos hvl] at hy
      simp at hx hy
      subst hx hy
      have e : (p.lvs ++ [i]).length = p.lvs.length + 1 := by simp
      have e2 : icells ((p.lvs ++ [i]).map Int.ofNat) = icells (p.lvs.map Int.ofNat) ++ [.int .i64 (i : Int)] := by rw [List.map_append, icells_append]; rfl
      rw [e, e2]
      exact own_other hown (hga hown) _
    · rw [if_neg hkk] at hx hy
      have k0 := h.lvs k x y hx hy
      have k1 := k0.kept hg (by
        by_cases e : y.ownBlock = v.ownBlock
        · exact .inl (hpair k y (fun e => hkk e.symm) hy e)
        · exact .inr e)
      exact own_other k1 (hga k1) _
  · have hap := h.apart
    unfold Apart at hap ⊢
    rw [List.map_set]
    obtain ⟨p1, p2⟩ := List.pairwise_cons.1 hap
    refine List.pairwise_cons.2 ⟨fun x hx e => ?_, ?_⟩
    · rcases List.mem_or_eq_of_mem_set hx with hx | rfl
      · exact p1 x hx e
      · have : tb = g1 := by simpa [Value.ownBlock] using e
        exact absurd this.symm (g1ne tb (blk_lt hct) hvt)
    · rw [List.pairwise_iff_getElem] at p2 ⊢
      intro r s hr hs hrs e
      simp only [List.length_set] at hr hs
      rw [List.getElem_set] at e
      rw [List.getElem_set] at e ⊢
      have hr' : r < vs.length := by simpa using hr
      have hs' : s < vs.length := by simpa using hs
      have hblk : ∀ (q : Nat) (hq : q < vs.length) (_ : q ≠ Y.length), (vs[q]).ownBlock = some g1 → False := fun q hq hne hqe => by
        have hq2 : (q : Nat) < M.opn.reverse.length := by rw [List.length_reverse, ← h.len]; exact hq
        have rq := h.lvs q _ _ (List.getElem?_eq_getElem hq2) (List.getElem?_eq_getElem hq)
        have hlt := (rq.lt g1 hqe).2
        rcases hat with hat | hat
        · have := hpair q _ hne (List.getElem?_eq_getElem hq) (hqe.trans hat.symm)
          rw [hqe] at this
          cases this
        · omega
      by_cases h1 : Y.length = r
      · rw [if_pos h1] at e ⊢
        rw [if_neg (by omega)] at e
        exfalso
        refine hblk s hs' (by omega) ?_
        simp only [List.getElem_map] at e
        rw [← e]
        rfl
      · rw [if_neg h1] at e ⊢
        by_cases h2 : Y.length = s
        · rw [if_pos h2] at e
          exfalso
          refine hblk r hr' (by omega) ?_
          simp only [List.getElem_map] at e
          rw [e]
          rfl
        · rw [if_neg h2] at e
          exact p2 r s hr hs hrs e
set_option maxHeartbeats 2000000 in
theorem m_leave {w : World} {B a : Nat} {M : Ms} (h : MAt w B a M) (i : Nat) (hi : i < 1000000) (h16 : M.opn.length ≤ 16) (hll : ∀ p ∈ M.opn, p.lvs.length ≤ 1000000) (hB : B ≤ w.heap.size) :
    Calls Try.prog 97 #[.pointer (some ⟨a, 0, none⟩), .int .i64 (i : Int)] w fun e w' => e = .returned (.bool (M.leave i).isSome) ∧ Below B w w' ∧ ∀ M', M.leave i = some M' → MAt w' B a M' := by
  obtain ⟨tb, tc, vo, vs, h⟩ := h.ma
  obtain ⟨A, c, rfl⟩ := own_form h.opn
  have b1 := blk_cell h.blk 1
  simp at b1
  have H := Lib.hid h
  have HLL := Lib.hid hll
  obtain ⟨n, hn⟩ : ∃ n, n = M.opn.length := ⟨_, rfl⟩
  rw [← hn] at b1 h16
  have HN := Lib.hid hn
  clear h hll hn
  go_enter Try.func97, Try.ntmps97
  go_wp2
  go_loop [5] (fun u => ∃ X Y : List Pt, u = .int .i64 ((Y.length : Int) - 1) ∧ Hid (M.opn = X ++ Y) ∧ Hid (∀ q ∈ X, q.loop = false) ∧ Y.length ≤ n) (fun u => (intOf u + 1).toNat)
  case atStart => exact ⟨[], M.opn, by rw [HN.out], rfl, by show ∀ q ∈ [], _; simp, by rw [HN.out]; exact Nat.le_refl _⟩
  case round =>
    obtain ⟨X, Y, rfl, HO, HX, hle⟩ := hrel
    cases hY : Y with
    | nil =>
      have he : Hid (M.leave i = none) := by
        show _ = _
        unfold Ms.leave
        rw [HO.out, hY, leaveIn_past i X [] HX.out]
        rfl
      have hl0 : (([] : List Pt).length : Int) = 0 := rfl
      clear hY
      go_wp2
      go_ret
      rw [he.out]
      exact ⟨rfl, Below.refl _ _, fun M' h => by cases h⟩
    | cons p Y' =>
      have hO : M.opn = X ++ p :: Y' := by rw [HO.out, hY]
      have hA : ∃ g, A = some ⟨g, 0, none⟩ := by
        obtain ⟨g, hg, _⟩ := own_some H.out.opn (by rw [hO, List.length_append, List.length_cons]; omega)
        exact ⟨g, hg⟩
      obtain ⟨g, rfl⟩ := hA
      have hlY : (((p :: Y').length : Nat) : Int) - 1 = (Y'.length : Int) := by rw [List.length_cons]; omega
      obtain ⟨v, hv, k0, k3, hlv, hfr⟩ := H.out.cell hO
      have hfr := hfr (Y'.length * 4 + 3)
      have hlen : (p :: Y').length = Y'.length + 1 := rfl
      have hlt : Y'.length < n := by rw [hY] at hle; rw [hlen] at hle; omega
      have hlp := HLL.out p (by rw [hO]; simp)
      rw [hlY]
      have HO' := Lib.hid hO
      have hv := Lib.hid hv
      have hlv := Lib.hid hlv
      obtain ⟨L, hL⟩ : ∃ L, L = Y'.length := ⟨_, rfl⟩
      rw [← hL] at hlt k0 k3 hfr ⊢
      have HL := Lib.hid hL
      clear hY hO HO hle hlY hlen hL
      have hlt2 : (L : Int) < (n : Int) := by omega
      have hge : 0 ≤ (L : Int) := by omega
      by_cases hlo : p.loop = true
      · have he : Hid (M.leave i = some ⟨M.to, X ++ ⟨p.loop, p.frm, p.oth, p.lvs ++ [i]⟩ :: Y', M.deep⟩) := by
          show _ = _
          unfold Ms.leave
          rw [HO'.out, leaveIn_past i X _ HX.out]
          unfold leaveIn
          rw [if_pos hlo]
          rfl
        rw [hlo] at k0
        have hlo := Lib.hid hlo
        obtain ⟨A2, c2, hv2⟩ := own_form hlv.out
        subst hv2
        obtain ⟨m, hm⟩ : ∃ m, m = p.lvs.length := ⟨_, rfl⟩
        rw [← hm] at k3 hlp hlv hv
        have HM := Lib.hid hm
        clear hm
        go_wp2
        have hgA : Hid (some g ≠ (Value.slice A2 m c2).ownBlock) := by
          obtain ⟨co, hco⟩ := own_blk H.out.opn g rfl
          exact own_ne hlv.out hco (by decide)
        have hgl : Hid (g < w.heap.size) := (H.out.opn.lt g rfl).2
        have hgl2 := hgl.out
        have hal2 : a < w.heap.size := blk_lt H.out.blk
        have hgB : Hid (some a ≠ (Value.slice A2 m c2).ownBlock) := own_ne hlv.out H.out.blk (by decide)
        go_region_law (first
          | (refine step_app1 rfl (.tmp 36) (.tmp 38) 38 3 _ 8 B rfl Try.underlying38 infoInt rfl (.slice A2 m c2) m (icells (p.lvs.map Int.ofNat)) (.int .i64 (i : Int)) rfl rfl hlv.out rfl (by unfold maxLen; omega) (by omega) hB ?_; intro g1 c1 w1 ho hg hat; have j1 := hg.cell k3 hgA.out; have j3 := hg.cell b1 hgB.out; have j2 := (World.frozen?_of_block (a := ⟨g, L * 4 + 3, none⟩) (hg.block g hgl.out hgA.out)).trans hfr; have ho := Lib.hid ho; have hg := Lib.hid hg; have hat := Lib.hid hat))
        all_goals
          go_wp2
          go_ret
          rw [he.out]
          refine ⟨rfl, ?_, fun M' hM' => ?_⟩
          · exact ((Below.refl B w).grown hg.out hB (fun k hk => (hlv.out.lt k hk).1)).setCell (H.out.opn.lt g rfl).1 _
          · cases hM'
            have hH := H.out
            have hho := ho.out
            have hv' := hv.out
            have hat' := hat.out
            have hg' := hg.out
            rw [HL.out]
            rw [HM.out] at hho hv' hg' hat' ⊢
            have hfin := hH.setLvs HO'.out hv' hho hg' hat'
            first | exact hfin.mat | exact hfin.drew.mat
      · have hlo' : p.loop = false := by simpa using hlo
        rw [hlo'] at k0
        have hlo := Lib.hid hlo
        have hX2 : Hid (∀ q ∈ X ++ [p], q.loop = false) := fun q hq => by
          rcases List.mem_append.1 hq with h | h
          · exact HX.out q h
          · simp at h
            rw [h]
            exact hlo'
        clear hlo' k3 hfr
        go_wp2
        go_round
        case rel => exact ⟨X ++ [p], Y', by rw [HL.out], by show _ = _; rw [HO'.out, List.append_assoc, List.singleton_append], hX2.out, by rw [← HL.out]; omega⟩
        case measure => first | (simp [intOf]; done) | (simp [intOf]; omega)
end Go.Proofs.Ytdbhhnphpjdmbaa
