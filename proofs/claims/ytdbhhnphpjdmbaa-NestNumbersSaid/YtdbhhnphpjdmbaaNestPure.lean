/- What belongs together, in plain words: the program's matcher step by step, the reference's two rounds, and that both answer the same. No program text. -/
import Derived.Test.YtdbhhnphpjdmbaaBase
namespace Go.Proofs.Ytdbhhnphpjdmbaa
set_option maxRecDepth 100000
set_option linter.unusedVariables false
set_option linter.unusedSimpArgs false
/-- an if or a loop that is open -/
structure Pt where
  loop : Bool
  frm : Nat
  oth : Nat
  lvs : List Nat
/-- the matcher; the innermost open one first -/
structure Ms where
  to : List Int
  opn : List Pt
  deep : Nat
def Ms.begin (m : Ms) (i : Nat) (loop : Bool) : Ms := ⟨m.to, ⟨loop, i, 0, []⟩ :: m.opn, max m.deep (m.opn.length + 1)⟩
def Ms.other (m : Ms) (i : Nat) : Option Ms := match m.opn with
  | [] => none
  | p :: q => if p.loop = true ∨ p.oth > 0 then none else some ⟨m.to.set p.frm ((i : Int) + 1), ⟨p.loop, p.frm, i, p.lvs⟩ :: q, m.deep⟩
def Ms.endIf (m : Ms) (i : Nat) : Option Ms := match m.opn with
  | [] => none
  | p :: q => if p.loop = true then none else some ⟨m.to.set (if p.oth > 0 then p.oth else p.frm) (i : Int), q, m.deep⟩
def setAll (t : List Int) (l : List Nat) (v : Int) : List Int := l.foldl (fun t k => t.set k v) t
def Ms.endLoop (m : Ms) (i : Nat) : Option Ms := match m.opn with
  | [] => none
  | p :: q => if p.loop = true then some ⟨setAll (m.to.set i (p.frm : Int)) p.lvs ((i : Int) + 1), q, m.deep⟩ else none
def leaveIn (i : Nat) : List Pt → Option (List Pt)
  | [] => none
  | p :: q => if p.loop = true then some (⟨p.loop, p.frm, p.oth, p.lvs ++ [i]⟩ :: q) else (leaveIn i q).map (p :: ·)
def Ms.leave (m : Ms) (i : Nat) : Option Ms := (leaveIn i m.opn).map fun o => ⟨m.to, o, m.deep⟩
def Ms.step (m : Ms) (i : Nat) (s : Int) : Option Ms :=
  if s = 63 then (if m.opn.length < 16 then some (m.begin i false) else none)
  else if s = 91 then (if m.opn.length < 16 then some (m.begin i true) else none)
  else if s = 58 then m.other i
  else if s = 59 then m.endIf i
  else if s = 93 then m.endLoop i
  else if s = 126 then m.leave i
  else some m
def Ms.run (m : Ms) (i : Nat) : List Int → Option Ms
  | [] => some m
  | s :: l => (m.step i s).bind fun m' => m'.run (i + 1) l
def Ms.init (n : Nat) : Ms := ⟨List.replicate n (-1), [], 0⟩
def nestOf (l : List Int) : Option (List Int × Nat) := match (Ms.init l.length).run 0 l with
  | some m => if m.opn = [] then some (m.to, m.deep) else none
  | none => none
/-- the reference's first round -/
structure Rs where
  to : List Int
  opn : List Nat
  deep : Nat
def sgn (l : List Int) (i : Nat) : Int := l.getD i 0
def Rs.step (l : List Int) (r : Rs) (i : Nat) (s : Int) : Option Rs :=
  if s = 63 ∨ s = 91 then (if r.opn.length < 16 then some ⟨r.to.set i (-1), i :: r.opn, max r.deep (r.opn.length + 1)⟩ else none)
  else if s = 58 then (match r.opn with
    | [] => none
    | t :: q => if sgn l t = 63 then some ⟨(r.to.set i (-1)).set t ((i : Int) + 1), i :: q, r.deep⟩ else none)
  else if s = 59 then (match r.opn with
    | [] => none
    | t :: q => if sgn l t = 91 then none else some ⟨(r.to.set i (-1)).set t (i : Int), q, r.deep⟩)
  else if s = 93 then (match r.opn with
    | [] => none
    | t :: q => if sgn l t = 91 then some ⟨(r.to.set i (-1)).set i (t : Int), q, r.deep⟩ else none)
  else some ⟨r.to.set i (-1), r.opn, r.deep⟩
def Rs.run (l : List Int) (r : Rs) (i : Nat) : List Int → Option Rs
  | [] => some r
  | s :: t => (r.step l i s).bind fun r' => r'.run l (i + 1) t
/-- behind the ] of the innermost loop round a token; -1 -/
def leavesFrom (l to : List Int) (at_ : Nat) : Nat → Nat → Int
  | _, 0 => -1
  | i, n + 1 => if sgn l i = 93 ∧ to.getD i 0 < (at_ : Int) then (i : Int) + 1 else leavesFrom l to at_ (i + 1) n
def leavesOf (l to : List Int) (at_ : Nat) : Int := leavesFrom l to at_ at_ (l.length - at_)
def tildes (l : List Int) (to : List Int) (i : Nat) : Nat → Option (List Int)
  | 0 => some to
  | n + 1 => if sgn l i = 126 then (if leavesOf l to i < 0 then none else tildes l (to.set i (leavesOf l to i)) (i + 1) n) else tildes l to (i + 1) n
def nestRef (l : List Int) : Option (List Int × Nat) := match (Rs.run l ⟨List.replicate l.length 0, [], 0⟩ 0 l) with
  | some r => if r.opn = [] then (tildes l r.to 0 l.length).map fun to => (to, r.deep) else none
  | none => none

/-! both answer the same -/
def Pt.top (p : Pt) : Nat := if p.oth > 0 then p.oth else p.frm
def FirstClose (l to : List Int) (x c : Nat) : Prop := sgn l c = 93 ∧ to.getD c 0 < (x : Int) ∧ ∀ i, x ≤ i → i < c → sgn l i = 93 → ¬ to.getD i 0 < (x : Int)
structure NInv (l : List Int) (k : Nat) (M : Ms) (R : Rs) : Prop where
  kl : k ≤ l.length
  lenM : M.to.length = l.length
  lenR : R.to.length = l.length
  stk : R.opn = M.opn.map Pt.top
  part : ∀ p ∈ M.opn, p.frm < k ∧ p.oth < k ∧ sgn l p.frm = (if p.loop = true then 91 else 63) ∧ (p.loop = true → p.oth = 0) ∧ (p.oth > 0 → sgn l p.oth = 58)
  sorted : M.opn.Pairwise fun p q => q.frm < p.frm
  deep : M.deep = R.deep
  tos : ∀ x, x < k → sgn l x ≠ 126 → M.to.getD x 0 = R.to.getD x 0
  rest : ∀ x, k ≤ x → x < l.length → M.to.getD x 0 = -1
  lvs : ∀ p ∈ M.opn, ∀ y ∈ p.lvs, p.frm < y ∧ y < k ∧ sgn l y = 126
  tilde : ∀ x, x < k → sgn l x = 126 → M.to.getD x 0 = -1 ∧ (∀ i, x ≤ i → i < k → sgn l i = 93 → ¬ R.to.getD i 0 < (x : Int)) ∧ (∃ p A B, M.opn = A ++ p :: B ∧ p.loop = true ∧ x ∈ p.lvs ∧ (∀ q ∈ A, q.loop = true → x < q.frm) ∧ ∀ q ∈ B, x ∉ q.lvs)
    ∨ ∃ c, x < c ∧ c < k ∧ FirstClose l R.to x c ∧ M.to.getD x 0 = (c : Int) + 1 ∧ ∀ q ∈ M.opn, x ∉ q.lvs
theorem getD_set (t : List Int) (i j : Nat) (v : Int) : (t.set i v).getD j 0 = if i = j ∧ j < t.length then v else t.getD j 0 := by
  simp only [List.getD_eq_getElem?_getD, List.getElem?_set]
  by_cases h : i = j
  · subst h
    by_cases h2 : i < t.length
    · simp [h2]
    · simp [h2, List.getElem?_eq_none (by omega : t.length ≤ i)]
  · simp [h]
theorem setAll_length (t : List Int) (l : List Nat) (v : Int) : (setAll t l v).length = t.length := by
  induction l generalizing t with
  | nil => rfl
  | cons a l ih => unfold setAll at *; rw [List.foldl_cons, ih]; simp
theorem setAll_getD (t : List Int) (l : List Nat) (v : Int) (j : Nat) (hl : ∀ y ∈ l, y < t.length) : (setAll t l v).getD j 0 = if j ∈ l then v else t.getD j 0 := by
  induction l generalizing t with
  | nil => simp [setAll]
  | cons a l ih =>
    have h := ih (t.set a v) (fun y hy => by rw [List.length_set]; exact hl y (List.mem_cons_of_mem _ hy))
    have e : setAll t (a :: l) v = setAll (t.set a v) l v := rfl
    rw [e, h, getD_set]
    by_cases h1 : j ∈ l
    · simp [h1]
    · by_cases h2 : a = j
      · subst h2
        simp [h1, hl a (List.mem_cons_self ..)]
      · have : ¬ j = a := fun e => h2 e.symm
        simp [h1, h2, this]
theorem top_sgn {l : List Int} {k : Nat} {M : Ms} {R : Rs} (h : NInv l k M R) {p : Pt} (hp : p ∈ M.opn) : sgn l p.top = if p.loop = true then 91 else if p.oth > 0 then 58 else 63 := by
  obtain ⟨h1, h2, h3, h4, h5⟩ := h.part p hp
  unfold Pt.top
  by_cases hl : p.loop = true
  · rw [if_neg (by rw [h4 hl]; omega), h3, if_pos hl, if_pos hl]
  · rw [if_neg hl]
    by_cases ho : p.oth > 0
    · rw [if_pos ho, if_pos ho, h5 ho]
    · rw [if_neg ho, if_neg ho, h3, if_neg hl]
theorem top_lt {l : List Int} {k : Nat} {M : Ms} {R : Rs} (h : NInv l k M R) {p : Pt} (hp : p ∈ M.opn) : p.top < k := by
  obtain ⟨h1, h2, _⟩ := h.part p hp
  unfold Pt.top
  split <;> omega
theorem fc_keep {l to to' : List Int} {x c : Nat} (h : FirstClose l to x c) (he : ∀ i, i ≤ c → sgn l i = 93 → to'.getD i 0 = to.getD i 0) : FirstClose l to' x c := by
  obtain ⟨h1, h2, h3⟩ := h
  exact ⟨h1, by rw [he c (Nat.le_refl _) h1]; exact h2, fun i hi hc hs => by rw [he i (by omega) hs]; exact h3 i hi hc hs⟩
theorem inv_begin {l : List Int} {k : Nat} {M : Ms} {R : Rs} (h : NInv l k M R) (hk : k < l.length) (b : Bool) (hs : sgn l k = if b = true then 91 else 63) :
    NInv l (k + 1) (M.begin k b) ⟨R.to.set k (-1), k :: R.opn, max R.deep (R.opn.length + 1)⟩ := by
  have hne : sgn l k ≠ 93 ∧ sgn l k ≠ 126 := by rw [hs]; split <;> decide
  have hR : ∀ i, i < k → (R.to.set k (-1)).getD i 0 = R.to.getD i 0 := fun i hi => by rw [getD_set, if_neg (by omega)]
  have hl : M.opn.length = R.opn.length := by rw [h.stk, List.length_map]
  refine ⟨hk, h.lenM, by simp [h.lenR], ?_, ?_, ?_, ?_, ?_, ?_, ?_, ?_⟩
  · show k :: R.opn = List.map Pt.top (⟨b, k, 0, []⟩ :: M.opn)
    rw [List.map_cons, ← h.stk]
    rfl
  · intro p hp
    rcases List.mem_cons.1 hp with rfl | hp
    · exact ⟨by simp, by simp, hs, fun _ => rfl, fun h => absurd h (by simp)⟩
    · obtain ⟨h1, h2, h3⟩ := h.part p hp
      exact ⟨by omega, by omega, h3⟩
  · exact List.pairwise_cons.2 ⟨fun q hq => (h.part q hq).1, h.sorted⟩
  · show max M.deep _ = max R.deep _
    rw [h.deep, hl]
  · intro x hx hx2
    show M.to.getD x 0 = (R.to.set k (-1)).getD x 0
    by_cases hxk : x = k
    · subst hxk
      rw [h.rest x (Nat.le_refl _) hk, getD_set, if_pos ⟨rfl, by rw [h.lenR]; exact hk⟩]
    · rw [hR x (by omega)]
      exact h.tos x (by omega) hx2
  · intro x hx
    exact h.rest x (by omega)
  · intro p hp y hy
    rcases List.mem_cons.1 hp with rfl | hp
    · simp at hy
    · obtain ⟨h1, h2, h3⟩ := h.lvs p hp y hy
      exact ⟨h1, by omega, h3⟩
  · intro x hx hs2
    have hxk : x < k := by
      rcases Nat.lt_or_ge x k with h | h
      · exact h
      · obtain rfl : x = k := by omega
        exact absurd hs2 hne.2
    rcases h.tilde x hxk hs2 with ⟨h1, h2, p, A, B, h3, h4, h5, h6, h7⟩ | ⟨c, h1, h2, h3, h4, h5⟩
    · refine .inl ⟨h1, fun i hi hi2 hi3 => ?_, p, ⟨b, k, 0, []⟩ :: A, B, by show _ :: M.opn = _; rw [h3]; rfl, h4, h5, ?_, h7⟩
      · have : i ≠ k := fun e => hne.1 (e ▸ hi3)
        show ¬ (R.to.set k (-1)).getD i 0 < _
        rw [hR i (by omega)]
        exact h2 i hi (by omega) hi3
      · intro q hq hql
        rcases List.mem_cons.1 hq with rfl | hq
        · exact hxk
        · exact h6 q hq hql
    · exact .inr ⟨c, h1, by omega, fc_keep h3 (fun i hi _ => hR i (by omega)), h4, fun q hq => by
        rcases List.mem_cons.1 hq with rfl | hq
        · simp
        · exact h5 q hq⟩
/-- a token that matches nothing -/
theorem inv_plain {l : List Int} {k : Nat} {M : Ms} {R : Rs} (h : NInv l k M R) (hk : k < l.length) (hne : sgn l k ≠ 93 ∧ sgn l k ≠ 126) :
    NInv l (k + 1) M ⟨R.to.set k (-1), R.opn, R.deep⟩ := by
  have hR : ∀ i, i < k → (R.to.set k (-1)).getD i 0 = R.to.getD i 0 := fun i hi => by rw [getD_set, if_neg (by omega)]
  refine ⟨hk, h.lenM, by simp [h.lenR], h.stk, fun p hp => ?_, h.sorted, h.deep, ?_, fun x hx => h.rest x (by omega), fun p hp y hy => ?_, ?_⟩
  · obtain ⟨h1, h2, h3⟩ := h.part p hp
    exact ⟨by omega, by omega, h3⟩
  · intro x hx hx2
    show M.to.getD x 0 = (R.to.set k (-1)).getD x 0
    by_cases hxk : x = k
    · subst hxk
      rw [h.rest x (Nat.le_refl _) hk, getD_set, if_pos ⟨rfl, by rw [h.lenR]; exact hk⟩]
    · rw [hR x (by omega)]
      exact h.tos x (by omega) hx2
  · obtain ⟨h1, h2, h3⟩ := h.lvs p hp y hy
    exact ⟨h1, by omega, h3⟩
  · intro x hx hs2
    have hxk : x < k := by
      rcases Nat.lt_or_ge x k with h | h
      · exact h
      · obtain rfl : x = k := by omega
        exact absurd hs2 hne.2
    rcases h.tilde x hxk hs2 with ⟨h1, h2, h3⟩ | ⟨c, h1, h2, h3, h4⟩
    · refine .inl ⟨h1, fun i hi hi2 hi3 => ?_, h3⟩
      have : i ≠ k := fun e => hne.1 (e ▸ hi3)
      show ¬ (R.to.set k (-1)).getD i 0 < _
      rw [hR i (by omega)]
      exact h2 i hi (by omega) hi3
    · exact .inr ⟨c, h1, by omega, fc_keep h3 (fun i hi _ => hR i (by omega)), h4⟩
theorem inv_other {l : List Int} {k : Nat} {M : Ms} {R : Rs} (h : NInv l k M R) (hk : k < l.length) (hs : sgn l k = 58) (p : Pt) (q : List Pt) (ho : M.opn = p :: q) (hl : p.loop = false) (h0 : p.oth = 0) :
    NInv l (k + 1) ⟨M.to.set p.frm ((k : Int) + 1), ⟨p.loop, p.frm, k, p.lvs⟩ :: q, M.deep⟩ ⟨(R.to.set k (-1)).set p.frm ((k : Int) + 1), k :: q.map Pt.top, R.deep⟩ := by
  have hp : p ∈ M.opn := by rw [ho]; exact List.mem_cons_self ..
  obtain ⟨f1, f2, f3, f4, f5⟩ := h.part p hp
  rw [if_neg (by simp [hl])] at f3
  have hne : sgn l k ≠ 93 ∧ sgn l k ≠ 126 := by rw [hs]; decide
  have hR : ∀ i, i < k → sgn l i ≠ 63 → ((R.to.set k (-1)).set p.frm ((k : Int) + 1)).getD i 0 = R.to.getD i 0 := fun i hi hi2 => by
    rw [getD_set, if_neg (by rintro ⟨e, _⟩; exact hi2 (e ▸ f3)), getD_set, if_neg (by omega)]
  have hM : ∀ i, sgn l i ≠ 63 → (M.to.set p.frm ((k : Int) + 1)).getD i 0 = M.to.getD i 0 := fun i hi2 => by
    rw [getD_set, if_neg (by rintro ⟨e, _⟩; exact hi2 (e ▸ f3))]
  have hpl : p.lvs = [] ∨ True := .inr trivial
  refine ⟨hk, by simp [h.lenM], by simp [h.lenR], ?_, ?_, ?_, h.deep, ?_, ?_, ?_, ?_⟩
  · show k :: q.map Pt.top = List.map Pt.top (⟨p.loop, p.frm, k, p.lvs⟩ :: q)
    rw [List.map_cons]
    have : (⟨p.loop, p.frm, k, p.lvs⟩ : Pt).top = k := by
      unfold Pt.top
      show (if k > 0 then k else p.frm) = k
      rw [if_pos (by omega)]
    rw [this]
  · intro x hx
    rcases List.mem_cons.1 hx with rfl | hx
    · exact ⟨by show p.frm < k + 1; omega, by show k < k + 1; omega, by show sgn l p.frm = if p.loop = true then 91 else 63; rw [if_neg (by simp [hl])]; exact f3, (fun e => by
        rw [show p.loop = true from e] at hl
        cases hl), fun _ => hs⟩
    · obtain ⟨h1, h2, h3⟩ := h.part x (by rw [ho]; exact List.mem_cons_of_mem _ hx)
      exact ⟨by omega, by omega, h3⟩
  · have := h.sorted
    rw [ho] at this
    exact List.pairwise_cons.2 (List.pairwise_cons.1 this)
  · intro x hx hx2
    show (M.to.set p.frm _).getD x 0 = ((R.to.set k (-1)).set p.frm _).getD x 0
    rw [getD_set, getD_set, List.length_set, h.lenM, h.lenR]
    by_cases he : p.frm = x ∧ x < l.length
    · rw [if_pos he, if_pos he]
    · rw [if_neg he, if_neg he, getD_set]
      by_cases hxk : k = x
      · subst hxk
        rw [if_pos ⟨rfl, by rw [h.lenR]; exact hk⟩, h.rest k (Nat.le_refl _) hk]
      · rw [if_neg (by omega)]
        exact h.tos x (by omega) hx2
  · intro x hx hx2
    show (M.to.set p.frm _).getD x 0 = -1
    rw [getD_set, if_neg (by omega)]
    exact h.rest x (by omega) hx2
  · intro x hx y hy
    have hh : ∃ z ∈ M.opn, z.frm = x.frm ∧ z.lvs = x.lvs := by
      rcases List.mem_cons.1 hx with rfl | hx
      · exact ⟨p, hp, rfl, rfl⟩
      · exact ⟨x, by rw [ho]; exact List.mem_cons_of_mem _ hx, rfl, rfl⟩
    obtain ⟨z, hz, e1, e2⟩ := hh
    obtain ⟨h1, h2, h3⟩ := h.lvs z hz y (e2 ▸ hy)
    exact ⟨by omega, by omega, h3⟩
  · intro x hx hs2
    have hxk : x < k := by
      rcases Nat.lt_or_ge x k with h | h
      · exact h
      · obtain rfl : x = k := by omega
        exact absurd hs2 hne.2
    have hx63 : sgn l x ≠ 63 := by rw [hs2]; decide
    have hx93 : ∀ i, sgn l i = 93 → sgn l i ≠ 63 := fun i e => by rw [e]; decide
    show (M.to.set p.frm _).getD x 0 = -1 ∧ _ ∨ _
    rcases h.tilde x hxk hs2 with ⟨h1, h2, z, A, B, h3, h4, h5, h6, h7⟩ | ⟨c, h1, h2, h3, h4, h5⟩
    · refine .inl ⟨by rw [hM x hx63]; exact h1, fun i hi hi2 hi3 => ?_, ?_⟩
      · have : i ≠ k := fun e => hne.1 (e ▸ hi3)
        show ¬ ((R.to.set k (-1)).set p.frm _).getD i 0 < _
        rw [hR i (by omega) (hx93 i hi3)]
        exact h2 i hi (by omega) hi3
      · rw [ho] at h3
        cases A with
        | nil =>
          simp at h3
          rw [← h3.1, hl] at h4
          cases h4
        | cons a A =>
          simp at h3
          refine ⟨z, ⟨p.loop, p.frm, k, p.lvs⟩ :: A, B, by show _ :: q = _; rw [h3.2]; rfl, h4, h5, fun w hw hwl => ?_, h7⟩
          rcases List.mem_cons.1 hw with rfl | hw
          · rw [show p.loop = true from hwl] at hl
            cases hl
          · exact h6 w (List.mem_cons_of_mem _ hw) hwl
    · exact .inr ⟨c, h1, by omega, fc_keep h3 (fun i hi hi3 => hR i (by omega) (hx93 i hi3)), by show (M.to.set p.frm _).getD x 0 = _; rw [hM x hx63]; exact h4, fun w hw => by
        rcases List.mem_cons.1 hw with rfl | hw
        · exact h5 p hp
        · exact h5 w (by rw [ho]; exact List.mem_cons_of_mem _ hw)⟩
theorem inv_endIf {l : List Int} {k : Nat} {M : Ms} {R : Rs} (h : NInv l k M R) (hk : k < l.length) (hs : sgn l k = 59) (p : Pt) (q : List Pt) (ho : M.opn = p :: q) (hl : p.loop = false) :
    NInv l (k + 1) ⟨M.to.set p.top (k : Int), q, M.deep⟩ ⟨(R.to.set k (-1)).set p.top (k : Int), q.map Pt.top, R.deep⟩ := by
  have hp : p ∈ M.opn := by rw [ho]; exact List.mem_cons_self ..
  have f1 := top_lt h hp
  have f3 := top_sgn h hp
  rw [if_neg (by simp [hl])] at f3
  have hts : sgn l p.top ≠ 93 ∧ sgn l p.top ≠ 126 := by rw [f3]; split <;> decide
  have hne : sgn l k ≠ 93 ∧ sgn l k ≠ 126 := by rw [hs]; decide
  have hR : ∀ i, i < k → sgn l i = 93 → ((R.to.set k (-1)).set p.top (k : Int)).getD i 0 = R.to.getD i 0 := fun i hi hi2 => by
    rw [getD_set, if_neg (by rintro ⟨e, _⟩; exact hts.1 (e ▸ hi2)), getD_set, if_neg (by omega)]
  refine ⟨hk, by simp [h.lenM], by simp [h.lenR], rfl, ?_, ?_, h.deep, ?_, ?_, ?_, ?_⟩
  · intro x hx
    obtain ⟨h1, h2, h3⟩ := h.part x (by rw [ho]; exact List.mem_cons_of_mem _ hx)
    exact ⟨by omega, by omega, h3⟩
  · have := h.sorted
    rw [ho] at this
    exact (List.pairwise_cons.1 this).2
  · intro x hx hx2
    show (M.to.set p.top _).getD x 0 = ((R.to.set k (-1)).set p.top _).getD x 0
    rw [getD_set, getD_set, List.length_set, h.lenM, h.lenR]
    by_cases he : p.top = x ∧ x < l.length
    · rw [if_pos he, if_pos he]
    · rw [if_neg he, if_neg he, getD_set]
      by_cases hxk : k = x
      · subst hxk
        rw [if_pos ⟨rfl, by rw [h.lenR]; exact hk⟩, h.rest k (Nat.le_refl _) hk]
      · rw [if_neg (by omega)]
        exact h.tos x (by omega) hx2
  · intro x hx hx2
    show (M.to.set p.top _).getD x 0 = -1
    rw [getD_set, if_neg (by omega)]
    exact h.rest x (by omega) hx2
  · intro x hx y hy
    obtain ⟨h1, h2, h3⟩ := h.lvs x (by rw [ho]; exact List.mem_cons_of_mem _ hx) y hy
    exact ⟨by omega, by omega, h3⟩
  · intro x hx hs2
    have hxk : x < k := by
      rcases Nat.lt_or_ge x k with h | h
      · exact h
      · obtain rfl : x = k := by omega
        exact absurd hs2 hne.2
    have hM : (M.to.set p.top (k : Int)).getD x 0 = M.to.getD x 0 := by rw [getD_set, if_neg (by rintro ⟨e, _⟩; exact hts.2 (e ▸ hs2))]
    show (M.to.set p.top _).getD x 0 = -1 ∧ _ ∨ _
    rcases h.tilde x hxk hs2 with ⟨h1, h2, z, A, B, h3, h4, h5, h6, h7⟩ | ⟨c, h1, h2, h3, h4, h5⟩
    · refine .inl ⟨by rw [hM]; exact h1, fun i hi hi2 hi3 => ?_, ?_⟩
      · have : i ≠ k := fun e => hne.1 (e ▸ hi3)
        show ¬ ((R.to.set k (-1)).set p.top _).getD i 0 < _
        rw [hR i (by omega) hi3]
        exact h2 i hi (by omega) hi3
      · rw [ho] at h3
        cases A with
        | nil =>
          simp at h3
          rw [← h3.1, hl] at h4
          cases h4
        | cons a A =>
          simp at h3
          exact ⟨z, A, B, h3.2, h4, h5, fun w hw hwl => h6 w (List.mem_cons_of_mem _ hw) hwl, h7⟩
    · exact .inr ⟨c, h1, by omega, fc_keep h3 (fun i hi hi3 => hR i (by omega) hi3), by show (M.to.set p.top _).getD x 0 = _; rw [hM]; exact h4, fun w hw => h5 w (by rw [ho]; exact List.mem_cons_of_mem _ hw)⟩
theorem inv_endLoop {l : List Int} {k : Nat} {M : Ms} {R : Rs} (h : NInv l k M R) (hk : k < l.length) (hs : sgn l k = 93) (p : Pt) (q : List Pt) (ho : M.opn = p :: q) (hl : p.loop = true) :
    NInv l (k + 1) ⟨setAll (M.to.set k (p.frm : Int)) p.lvs ((k : Int) + 1), q, M.deep⟩ ⟨(R.to.set k (-1)).set k (p.frm : Int), q.map Pt.top, R.deep⟩ := by
  have hp : p ∈ M.opn := by rw [ho]; exact List.mem_cons_self ..
  have f1 := (h.part p hp).1
  have hlv := h.lvs p hp
  have hne : sgn l k ≠ 126 := by rw [hs]; decide
  have hR : ∀ i, i < k → ((R.to.set k (-1)).set k (p.frm : Int)).getD i 0 = R.to.getD i 0 := fun i hi => by
    rw [getD_set, if_neg (by omega), getD_set, if_neg (by omega)]
  have hRk : ((R.to.set k (-1)).set k (p.frm : Int)).getD k 0 = (p.frm : Int) := by
    rw [getD_set, if_pos ⟨rfl, by rw [List.length_set, h.lenR]; exact hk⟩]
  have hlen : ∀ y ∈ p.lvs, y < (M.to.set k (p.frm : Int)).length := fun y hy => by
    rw [List.length_set, h.lenM]
    have := (hlv y hy).2.1
    omega
  have hM : ∀ x, (setAll (M.to.set k (p.frm : Int)) p.lvs ((k : Int) + 1)).getD x 0 = if x ∈ p.lvs then (k : Int) + 1 else if k = x then (p.frm : Int) else M.to.getD x 0 := fun x => by
    rw [setAll_getD _ _ _ _ hlen, getD_set, h.lenM]
    by_cases hx : k = x
    · subst hx
      simp [hk]
    · simp [hx]
  have hsrt := h.sorted
  rw [ho] at hsrt
  obtain ⟨hs1, hs2'⟩ := List.pairwise_cons.1 hsrt
  refine ⟨hk, by rw [setAll_length]; simp [h.lenM], by simp [h.lenR], rfl, ?_, hs2', h.deep, ?_, ?_, ?_, ?_⟩
  · intro x hx
    obtain ⟨h1, h2, h3⟩ := h.part x (by rw [ho]; exact List.mem_cons_of_mem _ hx)
    exact ⟨by omega, by omega, h3⟩
  · intro x hx hx2
    show (setAll (M.to.set k (p.frm : Int)) p.lvs ((k : Int) + 1)).getD x 0 = ((R.to.set k (-1)).set k _).getD x 0
    rw [hM, if_neg (fun hm => hx2 (hlv x hm).2.2)]
    by_cases hxk : k = x
    · subst hxk
      rw [if_pos rfl, hRk]
    · rw [if_neg hxk, hR x (by omega)]
      exact h.tos x (by omega) hx2
  · intro x hx hx2
    show (setAll (M.to.set k (p.frm : Int)) p.lvs ((k : Int) + 1)).getD x 0 = -1
    rw [hM, if_neg (fun hm => by have := (hlv x hm).2.1; omega), if_neg (by omega)]
    exact h.rest x (by omega) hx2
  · intro x hx y hy
    obtain ⟨h1, h2, h3⟩ := h.lvs x (by rw [ho]; exact List.mem_cons_of_mem _ hx) y hy
    exact ⟨by omega, by omega, h3⟩
  · intro x hx hs2
    have hxk : x < k := by
      rcases Nat.lt_or_ge x k with h | h
      · exact h
      · obtain rfl : x = k := by omega
        exact absurd hs2 hne
    show (setAll (M.to.set k (p.frm : Int)) p.lvs ((k : Int) + 1)).getD x 0 = -1 ∧ _ ∨ _
    rcases h.tilde x hxk hs2 with ⟨h1, h2, z, A, B, h3, h4, h5, h6, h7⟩ | ⟨c, h1, h2, h3, h4, h5⟩
    · rw [ho] at h3
      cases A with
      | nil =>
        simp at h3
        obtain ⟨rfl, rfl⟩ := h3
        have hxp := (hlv x h5).1
        refine .inr ⟨k, hxk, by omega, ⟨hs, by show ((R.to.set k (-1)).set k _).getD k 0 < _; rw [hRk]; omega, fun i hi hi2 hi3 => ?_⟩, ?_⟩
        · show ¬ ((R.to.set k (-1)).set k _).getD i 0 < _
          rw [hR i hi2]
          exact h2 i hi hi2 hi3
        · show (setAll (M.to.set k (p.frm : Int)) p.lvs ((k : Int) + 1)).getD x 0 = _ ∧ _
          exact ⟨by rw [hM, if_pos h5], h7⟩
      | cons a A =>
        simp at h3
        obtain ⟨rfl, h3⟩ := h3
        have hxp := h6 p (List.mem_cons_self ..) hl
        have hnx : x ∉ p.lvs := fun hm => by have := (hlv x hm).1; omega
        refine .inl ⟨by rw [hM, if_neg hnx, if_neg (by omega)]; exact h1, fun i hi hi2 hi3 => ?_, z, A, B, h3, h4, h5, fun w hw hwl => h6 w (List.mem_cons_of_mem _ hw) hwl, h7⟩
        show ¬ ((R.to.set k (-1)).set k _).getD i 0 < _
        by_cases hik : i = k
        · subst hik
          rw [hRk]
          omega
        · rw [hR i (by omega)]
          exact h2 i hi (by omega) hi3
    · have hnx : x ∉ p.lvs := h5 p hp
      exact .inr ⟨c, h1, by omega, fc_keep h3 (fun i hi hi3 => hR i (by omega)), by show (setAll (M.to.set k (p.frm : Int)) p.lvs ((k : Int) + 1)).getD x 0 = _; rw [hM, if_neg hnx, if_neg (by omega)]; exact h4, fun w hw => h5 w (by rw [ho]; exact List.mem_cons_of_mem _ hw)⟩
theorem leaveIn_some (i : Nat) : ∀ (o : List Pt), (∃ p ∈ o, p.loop = true) → ∃ A p B, o = A ++ p :: B ∧ (∀ q ∈ A, q.loop = false) ∧ p.loop = true ∧ leaveIn i o = some (A ++ ⟨p.loop, p.frm, p.oth, p.lvs ++ [i]⟩ :: B)
  | [], h => by simp at h
  | p :: q, h => by
    by_cases hl : p.loop = true
    · exact ⟨[], p, q, rfl, by simp, hl, by simp [leaveIn, hl]⟩
    · obtain ⟨A, z, B, h1, h2, h3, h4⟩ := leaveIn_some i q (by
        obtain ⟨z, hz, hz2⟩ := h
        rcases List.mem_cons.1 hz with rfl | hz
        · exact absurd hz2 hl
        · exact ⟨z, hz, hz2⟩)
      refine ⟨p :: A, z, B, by rw [h1]; rfl, ?_, h3, ?_⟩
      · intro w hw
        rcases List.mem_cons.1 hw with rfl | hw
        · simpa using hl
        · exact h2 w hw
      · unfold leaveIn
        rw [if_neg hl, h4]
        rfl
theorem leaveIn_none (i : Nat) : ∀ (o : List Pt), (∀ p ∈ o, p.loop = false) → leaveIn i o = none
  | [], _ => rfl
  | p :: q, h => by
    unfold leaveIn
    rw [if_neg (by simp [h p (List.mem_cons_self ..)]), leaveIn_none i q (fun z hz => h z (List.mem_cons_of_mem _ hz))]
    rfl
theorem inv_leave {l : List Int} {k : Nat} {M : Ms} {R : Rs} (h : NInv l k M R) (hk : k < l.length) (hs : sgn l k = 126) (A B : List Pt) (p : Pt) (ho : M.opn = A ++ p :: B) (hA : ∀ q ∈ A, q.loop = false) (hl : p.loop = true) :
    NInv l (k + 1) ⟨M.to, A ++ ⟨p.loop, p.frm, p.oth, p.lvs ++ [k]⟩ :: B, M.deep⟩ ⟨R.to.set k (-1), R.opn, R.deep⟩ := by
  have hR : ∀ i, i < k → (R.to.set k (-1)).getD i 0 = R.to.getD i 0 := fun i hi => by rw [getD_set, if_neg (by omega)]
  have hne : sgn l k ≠ 93 := by rw [hs]; decide
  have hp : p ∈ M.opn := by rw [ho]; simp
  have hsame : ∀ z ∈ A ++ (⟨p.loop, p.frm, p.oth, p.lvs ++ [k]⟩ : Pt) :: B, ∃ z' ∈ M.opn, z'.frm = z.frm ∧ z'.oth = z.oth ∧ z'.loop = z.loop ∧ ∀ y ∈ z.lvs, y ∈ z'.lvs ∨ y = k ∧ z' = p := fun z hz => by
    rcases List.mem_append.1 hz with hz | hz
    · exact ⟨z, by rw [ho]; exact List.mem_append_left _ hz, rfl, rfl, rfl, fun y hy => .inl hy⟩
    · rcases List.mem_cons.1 hz with rfl | hz
      · refine ⟨p, hp, rfl, rfl, rfl, fun y hy => ?_⟩
        rcases List.mem_append.1 hy with hy | hy
        · exact .inl hy
        · exact .inr ⟨by simpa using hy, rfl⟩
      · exact ⟨z, by rw [ho]; exact List.mem_append_right _ (List.mem_cons_of_mem _ hz), rfl, rfl, rfl, fun y hy => .inl hy⟩
  have hnk : ∀ z ∈ M.opn, k ∉ z.lvs := fun z hz hm => by have := (h.lvs z hz k hm).2.1; omega
  refine ⟨hk, h.lenM, by simp [h.lenR], ?_, ?_, ?_, h.deep, ?_, fun x hx => h.rest x (by omega), ?_, ?_⟩
  · show R.opn = _
    rw [h.stk, ho]
    simp [Pt.top]
  · intro z hz
    obtain ⟨z', hz', e1, e2, e3, _⟩ := hsame z hz
    obtain ⟨h1, h2, h3, h4, h5⟩ := h.part z' hz'
    rw [e1] at h1 h3
    rw [e2] at h2 h4 h5
    rw [e3] at h3 h4
    exact ⟨by omega, by omega, h3, h4, h5⟩
  · have := h.sorted
    rw [ho] at this
    rw [List.pairwise_append] at this ⊢
    obtain ⟨h1, h2, h3⟩ := this
    refine ⟨h1, List.pairwise_cons.2 (List.pairwise_cons.1 h2), fun a ha b hb => ?_⟩
    rcases List.mem_cons.1 hb with rfl | hb
    · exact h3 a ha p (List.mem_cons_self ..)
    · exact h3 a ha b (List.mem_cons_of_mem _ hb)
  · intro x hx hx2
    have : x ≠ k := fun e => hx2 (e ▸ hs)
    show M.to.getD x 0 = (R.to.set k (-1)).getD x 0
    rw [hR x (by omega)]
    exact h.tos x (by omega) hx2
  · intro z hz y hy
    obtain ⟨z', hz', e1, e2, e3, e4⟩ := hsame z hz
    rcases e4 y hy with h1 | ⟨rfl, rfl⟩
    · obtain ⟨h1, h2, h3⟩ := h.lvs z' hz' y h1
      exact ⟨by omega, by omega, h3⟩
    · have := (h.part z' hp).1
      exact ⟨by omega, by omega, hs⟩
  · intro x hx hs2
    by_cases hxk : x = k
    · subst hxk
      refine .inl ⟨h.rest x (Nat.le_refl _) hk, fun i hi hi2 hi3 => ?_, _, A, B, rfl, hl, by simp, fun q hq hql => ?_, fun q hq => hnk q (by rw [ho]; exact List.mem_append_right _ (List.mem_cons_of_mem _ hq))⟩
      · have : i = x := by omega
        exact absurd (this ▸ hi3) hne
      · rw [hA q hq] at hql
        cases hql
    · rcases h.tilde x (by omega) hs2 with ⟨h1, h2, z, A', B', h3, h4, h5, h6, h7⟩ | ⟨c, h1, h2, h3, h4, h5⟩
      · refine .inl ⟨h1, fun i hi hi2 hi3 => ?_, ?_⟩
        · have : i ≠ k := fun e => hne (e ▸ hi3)
          show ¬ (R.to.set k (-1)).getD i 0 < _
          rw [hR i (by omega)]
          exact h2 i hi (by omega) hi3
        · -- the part that bears x, in the new row
          have hin : ∀ (L : List Pt) (hL : M.opn = L) , True := fun _ _ => trivial
          rw [ho] at h3
          rcases List.append_eq_append_iff.1 h3 with ⟨C, c1, c2⟩ | ⟨C, c1, c2⟩
          · cases C with
            | nil =>
              simp at c1 c2
              subst c1
              obtain ⟨rfl, rfl⟩ := c2
              exact ⟨_, A', B, rfl, h4, List.mem_append_left _ h5, h6, h7⟩
            | cons w C =>
              simp at c2
              obtain ⟨rfl, rfl⟩ := c2
              refine ⟨z, A ++ ⟨p.loop, p.frm, p.oth, p.lvs ++ [k]⟩ :: C, B', by simp, h4, h5, fun q hq hql => ?_, h7⟩
              rcases List.mem_append.1 hq with hq | hq
              · exact h6 q (by rw [c1]; exact List.mem_append_left _ hq) hql
              · rcases List.mem_cons.1 hq with rfl | hq
                · exact h6 p (by rw [c1]; simp) hl
                · exact h6 q (by rw [c1]; simp [hq]) hql
          · cases C with
            | nil =>
              simp at c1 c2
              subst c1
              obtain ⟨rfl, rfl⟩ := c2
              exact ⟨_, A, B', rfl, h4, List.mem_append_left _ h5, h6, h7⟩
            | cons w C =>
              simp at c2
              obtain ⟨rfl, rfl⟩ := c2
              have := hA z (by rw [c1]; simp)
              rw [this] at h4
              cases h4
      · refine .inr ⟨c, h1, by omega, fc_keep h3 (fun i hi _ => hR i (by omega)), h4, fun w hw => ?_⟩
        obtain ⟨z', hz', _, _, _, e4⟩ := hsame w hw
        intro hm
        rcases e4 x hm with h8 | ⟨h8, _⟩
        · exact h5 z' hz' h8
        · exact hxk h8
theorem step_both {l : List Int} {k : Nat} {M : Ms} {R : Rs} (h : NInv l k M R) (hk : k < l.length) (hn : sgn l k ≠ 126) :
    (M.step k (sgn l k) = none ∧ R.step l k (sgn l k) = none) ∨ ∃ M' R', M.step k (sgn l k) = some M' ∧ R.step l k (sgn l k) = some R' ∧ NInv l (k + 1) M' R' := by
  have hl : R.opn.length = M.opn.length := by rw [h.stk, List.length_map]
  by_cases h63 : sgn l k = 63
  · by_cases h16 : M.opn.length < 16
    · exact .inr ⟨_, _, by unfold Ms.step; rw [if_pos h63, if_pos h16], by unfold Rs.step; rw [if_pos (.inl h63), hl, if_pos h16], by have := inv_begin h hk false (by rw [h63]; rfl); rw [hl] at this; exact this⟩
    · exact .inl ⟨by unfold Ms.step; rw [if_pos h63, if_neg h16], by unfold Rs.step; rw [if_pos (.inl h63), hl, if_neg h16]⟩
  by_cases h91 : sgn l k = 91
  · by_cases h16 : M.opn.length < 16
    · exact .inr ⟨_, _, by unfold Ms.step; rw [if_neg h63, if_pos h91, if_pos h16], by unfold Rs.step; rw [if_pos (.inr h91), hl, if_pos h16], by have := inv_begin h hk true (by rw [h91]; rfl); rw [hl] at this; exact this⟩
    · exact .inl ⟨by unfold Ms.step; rw [if_neg h63, if_pos h91, if_neg h16], by unfold Rs.step; rw [if_pos (.inr h91), hl, if_neg h16]⟩
  have hor : ¬ (sgn l k = 63 ∨ sgn l k = 91) := by rintro (h | h) <;> contradiction
  by_cases h58 : sgn l k = 58
  · have e1 : M.step k (sgn l k) = M.other k := by unfold Ms.step; rw [if_neg h63, if_neg h91, if_pos h58]
    rw [e1]
    unfold Rs.step
    rw [if_neg hor, if_pos h58]
    cases ho : M.opn with
    | nil =>
      have hr : R.opn = [] := by rw [h.stk, ho]; rfl
      exact .inl ⟨by unfold Ms.other; rw [ho], by rw [hr]⟩
    | cons p q =>
      have hr : R.opn = p.top :: q.map Pt.top := by rw [h.stk, ho]; rfl
      have hp : p ∈ M.opn := by rw [ho]; exact List.mem_cons_self ..
      have ht := top_sgn h hp
      rw [hr]
      unfold Ms.other
      rw [ho]
      simp only
      by_cases hlo : p.loop = true
      · rw [if_pos (.inl hlo), ht, if_pos hlo, if_neg (by decide)]
        exact .inl ⟨rfl, rfl⟩
      · by_cases h0 : p.oth > 0
        · rw [if_pos (.inr h0), ht, if_neg hlo, if_pos h0, if_neg (by decide)]
          exact .inl ⟨rfl, rfl⟩
        · rw [if_neg (by rintro (h | h) <;> contradiction), ht, if_neg hlo, if_neg h0, if_pos rfl]
          have htop : p.top = p.frm := by unfold Pt.top; rw [if_neg h0]
          refine .inr ⟨_, _, rfl, rfl, ?_⟩
          rw [htop]
          exact inv_other h hk h58 p q ho (by simpa using hlo) (by omega)
  by_cases h59 : sgn l k = 59
  · have e1 : M.step k (sgn l k) = M.endIf k := by unfold Ms.step; rw [if_neg h63, if_neg h91, if_neg h58, if_pos h59]
    rw [e1]
    unfold Rs.step
    rw [if_neg hor, if_neg h58, if_pos h59]
    cases ho : M.opn with
    | nil =>
      have hr : R.opn = [] := by rw [h.stk, ho]; rfl
      exact .inl ⟨by unfold Ms.endIf; rw [ho], by rw [hr]⟩
    | cons p q =>
      have hr : R.opn = p.top :: q.map Pt.top := by rw [h.stk, ho]; rfl
      have hp : p ∈ M.opn := by rw [ho]; exact List.mem_cons_self ..
      have ht := top_sgn h hp
      rw [hr]
      unfold Ms.endIf
      rw [ho]
      simp only
      by_cases hlo : p.loop = true
      · rw [if_pos hlo, ht, if_pos hlo, if_pos rfl]
        exact .inl ⟨rfl, rfl⟩
      · have hn91 : (if p.oth > 0 then (58 : Int) else 63) ≠ 91 := by split <;> decide
        rw [if_neg hlo, ht, if_neg hlo, if_neg hn91]
        exact .inr ⟨_, _, rfl, rfl, inv_endIf h hk h59 p q ho (by simpa using hlo)⟩
  by_cases h93 : sgn l k = 93
  · have e1 : M.step k (sgn l k) = M.endLoop k := by unfold Ms.step; rw [if_neg h63, if_neg h91, if_neg h58, if_neg h59, if_pos h93]
    rw [e1]
    unfold Rs.step
    rw [if_neg hor, if_neg h58, if_neg h59, if_pos h93]
    cases ho : M.opn with
    | nil =>
      have hr : R.opn = [] := by rw [h.stk, ho]; rfl
      exact .inl ⟨by unfold Ms.endLoop; rw [ho], by rw [hr]⟩
    | cons p q =>
      have hr : R.opn = p.top :: q.map Pt.top := by rw [h.stk, ho]; rfl
      have hp : p ∈ M.opn := by rw [ho]; exact List.mem_cons_self ..
      have ht := top_sgn h hp
      rw [hr]
      unfold Ms.endLoop
      rw [ho]
      simp only
      by_cases hlo : p.loop = true
      · rw [if_pos hlo, ht, if_pos hlo, if_pos rfl]
        have h0 := (h.part p hp).2.2.2.1 hlo
        have htop : p.top = p.frm := by unfold Pt.top; rw [if_neg (by omega)]
        rw [htop]
        exact .inr ⟨_, _, rfl, rfl, inv_endLoop h hk h93 p q ho hlo⟩
      · rw [if_neg hlo, ht, if_neg hlo, if_neg (by split <;> decide)]
        exact .inl ⟨rfl, rfl⟩
  · refine .inr ⟨_, _, by unfold Ms.step; rw [if_neg h63, if_neg h91, if_neg h58, if_neg h59, if_neg h93, if_neg hn], by unfold Rs.step; rw [if_neg hor, if_neg h58, if_neg h59, if_neg h93], inv_plain h hk ⟨h93, hn⟩⟩
/-- what the reference leaves where no loop below x is open -/
def NoLoop (l : List Int) (x k : Nat) (R : Rs) : Prop := R.to.length = l.length ∧ (∀ t ∈ R.opn, t < x → sgn l t ≠ 91) ∧ (∀ t ∈ R.opn, t < k) ∧ ∀ i, x ≤ i → i < k → sgn l i = 93 → ¬ R.to.getD i 0 < (x : Int)
theorem noLoop_step {l : List Int} {x k : Nat} {R R' : Rs} (h : NoLoop l x k R) (hx : x ≤ k) (hk : k < l.length) (hs : R.step l k (sgn l k) = some R') : NoLoop l x (k + 1) R' := by
  obtain ⟨h0, h1, h2, h3⟩ := h
  have hset : ∀ i, i ≠ k → (R.to.set k (-1)).getD i 0 = R.to.getD i 0 := fun i hi => by rw [getD_set, if_neg (by omega)]
  have hkk : sgn l k ≠ 93 → ∀ i, x ≤ i → i < k + 1 → sgn l i = 93 → i < k := fun hn i hi hi2 hi3 => by
    have : i ≠ k := fun e => hn (e ▸ hi3)
    omega
  unfold Rs.step at hs
  by_cases ha : sgn l k = 63 ∨ sgn l k = 91
  · rw [if_pos ha] at hs
    split at hs
    · simp only [Option.some.injEq] at hs
      subst hs
      refine ⟨by simp [h0], fun t ht htx => ?_, fun t ht => ?_, fun i hi hi2 hi3 => ?_⟩
      · rcases List.mem_cons.1 ht with rfl | ht
        · omega
        · exact h1 t ht htx
      · rcases List.mem_cons.1 ht with rfl | ht
        · omega
        · have := h2 t ht; omega
      · have := hkk (by rintro e; rw [e] at ha; revert ha; decide) i hi hi2 hi3
        show ¬ (R.to.set k (-1)).getD i 0 < _
        rw [hset i (by omega)]
        exact h3 i hi this hi3
    · cases hs
  rw [if_neg ha] at hs
  by_cases hb : sgn l k = 58
  · rw [if_pos hb] at hs
    cases ho : R.opn with
    | nil => rw [ho] at hs; cases hs
    | cons t q =>
      rw [ho] at hs
      simp only at hs
      split at hs
      · rename_i h63
        simp only [Option.some.injEq] at hs
        subst hs
        refine ⟨by simp [h0], fun u hu hux => ?_, fun u hu => ?_, fun i hi hi2 hi3 => ?_⟩
        · rcases List.mem_cons.1 hu with rfl | hu
          · omega
          · exact h1 u (by rw [ho]; exact List.mem_cons_of_mem _ hu) hux
        · rcases List.mem_cons.1 hu with rfl | hu
          · omega
          · have := h2 u (by rw [ho]; exact List.mem_cons_of_mem _ hu); omega
        · have := hkk (by rw [hb]; decide) i hi hi2 hi3
          show ¬ ((R.to.set k (-1)).set t _).getD i 0 < _
          rw [getD_set, if_neg (by rintro ⟨e, _⟩; rw [e, hi3] at h63; exact absurd h63 (by decide)), hset i (by omega)]
          exact h3 i hi this hi3
      · cases hs
  rw [if_neg hb] at hs
  by_cases hc : sgn l k = 59
  · rw [if_pos hc] at hs
    cases ho : R.opn with
    | nil => rw [ho] at hs; cases hs
    | cons t q =>
      rw [ho] at hs
      simp only at hs
      split at hs
      · cases hs
      · simp only [Option.some.injEq] at hs
        subst hs
        refine ⟨by simp [h0], fun u hu hux => h1 u (by rw [ho]; exact List.mem_cons_of_mem _ hu) hux, fun u hu => ?_, fun i hi hi2 hi3 => ?_⟩
        · have := h2 u (by rw [ho]; exact List.mem_cons_of_mem _ hu); omega
        · have := hkk (by rw [hc]; decide) i hi hi2 hi3
          show ¬ ((R.to.set k (-1)).set t _).getD i 0 < _
          rw [getD_set]
          split
          · omega
          · rw [hset i (by omega)]
            exact h3 i hi this hi3
  rw [if_neg hc] at hs
  by_cases hd : sgn l k = 93
  · rw [if_pos hd] at hs
    cases ho : R.opn with
    | nil => rw [ho] at hs; cases hs
    | cons t q =>
      rw [ho] at hs
      simp only at hs
      split at hs
      · rename_i h91
        simp only [Option.some.injEq] at hs
        subst hs
        have ht : x ≤ t := by
          rcases Nat.lt_or_ge t x with h | h
          · exact absurd h91 (h1 t (by rw [ho]; exact List.mem_cons_self ..) h)
          · exact h
        refine ⟨by simp [h0], fun u hu hux => h1 u (by rw [ho]; exact List.mem_cons_of_mem _ hu) hux, fun u hu => ?_, fun i hi hi2 hi3 => ?_⟩
        · have := h2 u (by rw [ho]; exact List.mem_cons_of_mem _ hu); omega
        · show ¬ ((R.to.set k (-1)).set k _).getD i 0 < _
          rw [getD_set]
          split
          · omega
          · rename_i hne
            have : i ≠ k := fun e => hne ⟨e.symm, by rw [List.length_set, h0, e]; exact hk⟩
            rw [hset i this]
            exact h3 i hi (by omega) hi3
      · cases hs
  rw [if_neg hd] at hs
  simp only [Option.some.injEq] at hs
  subst hs
  refine ⟨by simp [h0], h1, fun t ht => by have := h2 t ht; omega, fun i hi hi2 hi3 => ?_⟩
  have := hkk hd i hi hi2 hi3
  show ¬ (R.to.set k (-1)).getD i 0 < _
  rw [hset i (by omega)]
  exact h3 i hi this hi3
theorem sgn_drop {l : List Int} {k : Nat} {s : Int} {t : List Int} (h : l.drop k = s :: t) : k < l.length ∧ s = sgn l k ∧ l.drop (k + 1) = t := by
  have hk : k < l.length := by
    rcases Nat.lt_or_ge k l.length with h1 | h1
    · exact h1
    · rw [List.drop_of_length_le h1] at h; cases h
  rw [List.drop_eq_getElem_cons hk] at h
  injection h with h1 h2
  refine ⟨hk, ?_, h2⟩
  unfold sgn
  rw [List.getD_eq_getElem?_getD, List.getElem?_eq_getElem hk, ← h1]
  rfl
theorem noLoop_run {l : List Int} {x : Nat} : ∀ (rest : List Int) (k : Nat) (R R' : Rs), l.drop k = rest → x ≤ k → NoLoop l x k R → k ≤ l.length → Rs.run l R k rest = some R' → NoLoop l x l.length R'
  | [], k, R, R', hr, hx, h, hk, hs => by
    simp only [Rs.run, Option.some.injEq] at hs
    subst hs
    have : k = l.length := by
      rcases Nat.lt_or_ge k l.length with h1 | h1
      · rw [List.drop_eq_getElem_cons h1] at hr; cases hr
      · omega
    exact this ▸ h
  | s :: t, k, R, R', hr, hx, h, hk, hs => by
    obtain ⟨h1, rfl, h3⟩ := sgn_drop hr
    unfold Rs.run at hs
    cases hst : R.step l k (sgn l k) with
    | none => rw [hst] at hs; cases hs
    | some R1 =>
      rw [hst] at hs
      exact noLoop_run t (k + 1) R1 R' h3 (by omega) (noLoop_step h hx h1 hst) (by omega) hs
theorem leavesFrom_none {l to : List Int} {x : Nat} : ∀ (n i : Nat), (∀ j, i ≤ j → j < i + n → sgn l j = 93 → ¬ to.getD j 0 < (x : Int)) → leavesFrom l to x i n = -1
  | 0, _, _ => rfl
  | n + 1, i, h => by
    unfold leavesFrom
    rw [if_neg (by rintro ⟨h1, h2⟩; exact h i (by omega) (by omega) h1 h2)]
    exact leavesFrom_none n (i + 1) (fun j hj hj2 => h j (by omega) (by omega))
theorem leavesFrom_some {l to : List Int} {x c : Nat} (h : FirstClose l to x c) : ∀ (n i : Nat), x ≤ i → i ≤ c → c < i + n → leavesFrom l to x i n = (c : Int) + 1
  | 0, i, _, _, _ => by omega
  | n + 1, i, h1, h2, h3 => by
    unfold leavesFrom
    by_cases hi : i = c
    · subst hi
      rw [if_pos ⟨h.1, h.2.1⟩]
    · rw [if_neg (by rintro ⟨g1, g2⟩; exact h.2.2 i h1 (by omega) g1 g2)]
      exact leavesFrom_some h n (i + 1) (by omega) (by omega) (by omega)
theorem tildes_some {l : List Int} : ∀ (n i : Nat) (to : List Int), to.length = l.length → (∀ x, i ≤ x → x < i + n → sgn l x = 126 → ∃ c, x ≤ c ∧ c < l.length ∧ FirstClose l to x c) →
    ∃ to', tildes l to i n = some to' ∧ to'.length = l.length ∧ (∀ x, (x < i ∨ i + n ≤ x ∨ sgn l x ≠ 126) → to'.getD x 0 = to.getD x 0) ∧ ∀ x c, i ≤ x → x < i + n → x < l.length → sgn l x = 126 → x ≤ c → c < l.length → FirstClose l to x c → to'.getD x 0 = (c : Int) + 1
  | 0, i, to, hl, h => ⟨to, rfl, hl, fun _ _ => rfl, fun x c hx hx2 => by omega⟩
  | n + 1, i, to, hl, h => by
    unfold tildes
    by_cases hs : sgn l i = 126
    · obtain ⟨c, hc1, hc2, hc3⟩ := h i (by omega) (by omega) hs
      have hlv : leavesOf l to i = (c : Int) + 1 := leavesFrom_some hc3 _ i (by omega) hc1 (by omega)
      rw [if_pos hs, hlv, if_neg (by omega)]
      have hkeep : ∀ j, sgn l j = 93 → (to.set i ((c : Int) + 1)).getD j 0 = to.getD j 0 := fun j hj => by
        rw [getD_set, if_neg (by rintro ⟨e, _⟩; rw [← e, hs] at hj; exact absurd hj (by decide))]
      obtain ⟨to', e1, e2, e3, e4⟩ := tildes_some (l := l) n (i + 1) (to.set i ((c : Int) + 1)) (by rw [List.length_set]; exact hl) (fun x hx hx2 hxs => by
        obtain ⟨c', g1, g2, g3⟩ := h x (by omega) (by omega) hxs
        exact ⟨c', g1, g2, fc_keep g3 (fun j _ hj => hkeep j hj)⟩)
      refine ⟨to', e1, e2, fun x hx => ?_, fun x c' hx hx2 hxl hxs g1 g2 g3 => ?_⟩
      · rw [e3 x (by rcases hx with h | h | h; exact .inl (by omega); exact .inr (.inl (by omega)); exact .inr (.inr h)), getD_set, if_neg]
        rintro ⟨e, _⟩
        subst e
        rcases hx with h | h | h
        · omega
        · omega
        · exact h hs
      · by_cases hxi : x = i
        · subst hxi
          rw [e3 x (.inl (by omega)), getD_set, if_pos ⟨rfl, by rw [hl]; exact hxl⟩]
          have h1 : leavesOf l to x = (c' : Int) + 1 := leavesFrom_some g3 _ x (by omega) g1 (by omega)
          omega
        · exact e4 x c' (by omega) (by omega) hxl hxs g1 g2 (fc_keep g3 (fun j _ hj => hkeep j hj))
    · rw [if_neg hs]
      obtain ⟨to', e1, e2, e3, e4⟩ := tildes_some n (i + 1) to hl (fun x hx hx2 hxs => h x (by omega) (by omega) hxs)
      refine ⟨to', e1, e2, fun x hx => ?_, fun x c' hx hx2 hxl hxs => ?_⟩
      · by_cases hxi : x = i
        · subst hxi
          exact e3 x (.inl (by omega))
        · exact e3 x (by rcases hx with h | h | h; exact .inl (by omega); exact .inr (.inl (by omega)); exact .inr (.inr h))
      · by_cases hxi : x = i
        · subst hxi
          exact absurd hxs hs
        · exact e4 x c' (by omega) (by omega) hxl hxs
theorem tildes_none {l : List Int} {x : Nat} (hx : sgn l x = 126) : ∀ (n i : Nat) (to : List Int), i ≤ x → x < i + n → (∀ j, x ≤ j → j < l.length → sgn l j = 93 → ¬ to.getD j 0 < (x : Int)) → tildes l to i n = none
  | 0, i, to, h1, h2, _ => by omega
  | n + 1, i, to, h1, h2, h => by
    unfold tildes
    by_cases hs : sgn l i = 126
    · rw [if_pos hs]
      split
      · rfl
      · rename_i hlv
        by_cases hxi : x = i
        · subst hxi
          have : leavesOf l to x = -1 := leavesFrom_none _ x (fun j hj hj2 => h j hj (by omega))
          omega
        · exact tildes_none hx n (i + 1) _ (by omega) (by omega) (fun j hj hj2 hj3 => by
            rw [getD_set, if_neg (by rintro ⟨e, _⟩; rw [← e, hs] at hj3; exact absurd hj3 (by decide))]
            exact h j hj hj2 hj3)
    · rw [if_neg hs]
      have hxi : x ≠ i := fun e => hs (e ▸ hx)
      exact tildes_none hx n (i + 1) to (by omega) (by omega) h
theorem end_both {l : List Int} {M : Ms} {R : Rs} (h : NInv l l.length M R) (ho : M.opn = []) : tildes l R.to 0 l.length = some M.to := by
  have hc : ∀ x, x < l.length → sgn l x = 126 → ∃ c, x < c ∧ c < l.length ∧ FirstClose l R.to x c ∧ M.to.getD x 0 = (c : Int) + 1 := fun x hx hs => by
    rcases h.tilde x hx hs with ⟨_, _, p, A, B, h3, _⟩ | ⟨c, h1, h2, h3, h4, _⟩
    · rw [ho] at h3
      simp at h3
    · exact ⟨c, h1, h2, h3, h4⟩
  obtain ⟨to', e1, e2, e3, e4⟩ := tildes_some l.length 0 R.to h.lenR (fun x _ hx hs => by
    obtain ⟨c, h1, h2, h3, _⟩ := hc x (by omega) hs
    exact ⟨c, by omega, h2, h3⟩)
  rw [e1]
  congr 1
  apply List.ext_getElem (by rw [e2, h.lenM])
  intro x hx1 hx2
  have hx : x < l.length := by omega
  have g1 : to'.getD x 0 = to'[x] := by rw [List.getD_eq_getElem?_getD, List.getElem?_eq_getElem hx1]; rfl
  have g2 : M.to.getD x 0 = M.to[x] := by rw [List.getD_eq_getElem?_getD, List.getElem?_eq_getElem hx2]; rfl
  rw [← g1, ← g2]
  by_cases hs : sgn l x = 126
  · obtain ⟨c, h1, h2, h3, h4⟩ := hc x hx hs
    rw [e4 x c (by omega) (by omega) hx hs (by omega) h2 h3, h4]
  · rw [e3 x (.inr (.inr hs)), h.tos x hx hs]
theorem run_both {l : List Int} : ∀ (rest : List Int) (k : Nat) (M : Ms) (R : Rs), l.drop k = rest → NInv l k M R →
    (match M.run k rest with | some m => if m.opn = [] then some (m.to, m.deep) else none | none => none) = (match Rs.run l R k rest with | some r => if r.opn = [] then (tildes l r.to 0 l.length).map fun to => (to, r.deep) else none | none => none)
  | [], k, M, R, hr, h => by
    have : k = l.length := by
      rcases Nat.lt_or_ge k l.length with h1 | h1
      · rw [List.drop_eq_getElem_cons h1] at hr; cases hr
      · have := h.kl; omega
    subst this
    simp only [Ms.run, Rs.run]
    by_cases ho : M.opn = []
    · rw [if_pos ho, if_pos (by rw [h.stk, ho]; rfl), end_both h ho]
      simp [h.deep]
    · rw [if_neg ho, if_neg (by rw [h.stk]; simpa using ho)]
  | s :: t, k, M, R, hr, h => by
    obtain ⟨hk, rfl, h3⟩ := sgn_drop hr
    unfold Ms.run Rs.run
    by_cases hn : sgn l k = 126
    · have e1 : M.step k (sgn l k) = M.leave k := by unfold Ms.step; rw [hn]; rfl
      have e2 : R.step l k (sgn l k) = some ⟨R.to.set k (-1), R.opn, R.deep⟩ := by unfold Rs.step; rw [hn]; rfl
      rw [e1, e2]
      by_cases hlp : ∃ p ∈ M.opn, p.loop = true
      · obtain ⟨A, p, B, g1, g2, g3, g4⟩ := leaveIn_some k M.opn hlp
        have e3 : M.leave k = some ⟨M.to, A ++ ⟨p.loop, p.frm, p.oth, p.lvs ++ [k]⟩ :: B, M.deep⟩ := by unfold Ms.leave; rw [g4]; rfl
        rw [e3]
        exact run_both t (k + 1) _ _ h3 (inv_leave h hk hn A B p g1 g2 g3)
      · have hall : ∀ p ∈ M.opn, p.loop = false := fun p hp => by
          cases hb : p.loop with
          | false => rfl
          | true => exact absurd ⟨p, hp, hb⟩ hlp
        have e3 : M.leave k = none := by unfold Ms.leave; rw [leaveIn_none k _ hall]; rfl
        rw [e3]
        simp only [Option.bind_none, Option.bind_some]
        have hNL : NoLoop l k (k + 1) ⟨R.to.set k (-1), R.opn, R.deep⟩ := by
          refine ⟨by simp [h.lenR], fun t ht _ => ?_, fun t ht => ?_, fun i hi hi2 hi3 => ?_⟩
          · have ht' : t ∈ M.opn.map Pt.top := by rw [← h.stk]; exact ht
            obtain ⟨p, hp, rfl⟩ := List.mem_map.1 ht'
            rw [top_sgn h hp, if_neg (by simp [hall p hp])]
            split <;> decide
          · have ht' : t ∈ M.opn.map Pt.top := by rw [← h.stk]; exact ht
            obtain ⟨p, hp, rfl⟩ := List.mem_map.1 ht'
            have := top_lt h hp
            omega
          · have : i = k := by omega
            subst this
            rw [hn] at hi3
            exact absurd hi3 (by decide)
        cases hrun : Rs.run l ⟨R.to.set k (-1), R.opn, R.deep⟩ (k + 1) t with
        | none => rfl
        | some R' =>
          have := noLoop_run t (k + 1) _ R' h3 (by omega) hNL (by omega) hrun
          simp only
          split
          · rw [tildes_none hn l.length 0 R'.to (by omega) (by omega) (fun j hj hj2 hj3 => this.2.2.2 j hj hj2 hj3)]
            rfl
          · rfl
    · rcases step_both h hk hn with ⟨e1, e2⟩ | ⟨M', R', e1, e2, hi⟩
      · rw [e1, e2]
        rfl
      · rw [e1, e2]
        exact run_both t (k + 1) M' R' h3 hi
theorem nest_same (l : List Int) : nestOf l = nestRef l := by
  have h : NInv l 0 (Ms.init l.length) ⟨List.replicate l.length 0, [], 0⟩ := by
    refine ⟨by omega, by simp [Ms.init], by simp, rfl, by simp [Ms.init], by simp [Ms.init], rfl, fun x hx => by omega, fun x _ hx => ?_, by simp [Ms.init], fun x hx => by omega⟩
    simp [Ms.init, List.getD_eq_getElem?_getD, List.getElem?_replicate, hx]
  exact run_both l 0 _ _ rfl h
/-! where one goes from each token of what matches -/
structure WInv (l : List Int) (k : Nat) (M : Ms) : Prop where
  ifs : ∀ x, x < k → sgn l x = 63 → (∃ p ∈ M.opn, p.loop = false ∧ p.top = x) ∨ ((x : Int) < M.to.getD x 0 ∧ M.to.getD x 0 ≤ (k : Int))
  oth : ∀ x, x < k → sgn l x = 58 → (∃ p ∈ M.opn, p.loop = false ∧ p.top = x) ∨ ((x : Int) < M.to.getD x 0 ∧ M.to.getD x 0 ≤ (k : Int))
  back : ∀ x, x < k → sgn l x = 93 → 0 ≤ M.to.getD x 0 ∧ M.to.getD x 0 < (x : Int) ∧ sgn l (M.to.getD x 0).toNat = 91
  none : ∀ x, x < k → sgn l x ≠ 63 → sgn l x ≠ 58 → sgn l x ≠ 93 → sgn l x ≠ 126 → M.to.getD x 0 = -1
theorem winv_step {l : List Int} {k : Nat} {M M' : Ms} {R : Rs} (h : NInv l k M R) (w : WInv l k M) (hk : k < l.length) (hs : M.step k (sgn l k) = some M') : WInv l (k + 1) M' := by
  have hrest := h.rest k (Nat.le_refl _) hk
  unfold Ms.step at hs
  by_cases h63 : sgn l k = 63
  · rw [if_pos h63] at hs
    split at hs
    · simp only [Option.some.injEq] at hs
      subst hs
      refine ⟨fun x hx hx2 => ?_, fun x hx hx2 => ?_, fun x hx hx2 => ?_, fun x hx h1 h2 h3 h4 => ?_⟩
      · by_cases e : x = k
        · exact .inl ⟨⟨false, k, 0, []⟩, List.mem_cons_self .., rfl, e.symm⟩
        · rcases w.ifs x (by omega) hx2 with ⟨p, hp, h⟩ | ⟨h, h'⟩
          · exact .inl ⟨p, List.mem_cons_of_mem _ hp, h⟩
          · exact .inr ⟨h, by show M.to.getD x 0 ≤ _; omega⟩
      · have e : x ≠ k := fun e => by rw [e, h63] at hx2; exact absurd hx2 (by decide)
        rcases w.oth x (by omega) hx2 with ⟨p, hp, h⟩ | ⟨h, h'⟩
        · exact .inl ⟨p, List.mem_cons_of_mem _ hp, h⟩
        · exact .inr ⟨h, by show M.to.getD x 0 ≤ _; omega⟩
      · have e : x ≠ k := fun e => by rw [e, h63] at hx2; exact absurd hx2 (by decide)
        exact w.back x (by omega) hx2
      · have e : x ≠ k := fun e => h1 (e ▸ h63)
        exact w.none x (by omega) h1 h2 h3 h4
    · cases hs
  rw [if_neg h63] at hs
  by_cases h91 : sgn l k = 91
  · rw [if_pos h91] at hs
    split at hs
    · simp only [Option.some.injEq] at hs
      subst hs
      refine ⟨fun x hx hx2 => ?_, fun x hx hx2 => ?_, fun x hx hx2 => ?_, fun x hx h1 h2 h3 h4 => ?_⟩
      · have e : x ≠ k := fun e => h63 (e ▸ hx2)
        rcases w.ifs x (by omega) hx2 with ⟨p, hp, h⟩ | ⟨h, h'⟩
        · exact .inl ⟨p, List.mem_cons_of_mem _ hp, h⟩
        · exact .inr ⟨h, by show M.to.getD x 0 ≤ _; omega⟩
      · have e : x ≠ k := fun e => by rw [e, h91] at hx2; exact absurd hx2 (by decide)
        rcases w.oth x (by omega) hx2 with ⟨p, hp, h⟩ | ⟨h, h'⟩
        · exact .inl ⟨p, List.mem_cons_of_mem _ hp, h⟩
        · exact .inr ⟨h, by show M.to.getD x 0 ≤ _; omega⟩
      · have e : x ≠ k := fun e => by rw [e, h91] at hx2; exact absurd hx2 (by decide)
        exact w.back x (by omega) hx2
      · by_cases e : x = k
        · subst e
          exact hrest
        · exact w.none x (by omega) h1 h2 h3 h4
    · cases hs
  rw [if_neg h91] at hs
  by_cases h58 : sgn l k = 58
  · rw [if_pos h58] at hs
    unfold Ms.other at hs
    cases ho : M.opn with
    | nil => rw [ho] at hs; cases hs
    | cons p q =>
      rw [ho] at hs
      simp only at hs
      have hp : p ∈ M.opn := by rw [ho]; exact List.mem_cons_self ..
      obtain ⟨f1, f2, f3, f4, f5⟩ := h.part p hp
      split at hs
      · cases hs
      · rename_i hc
        simp only [Option.some.injEq] at hs
        subst hs
        have hlo : p.loop = false := by cases hb : p.loop with | false => rfl | true => exact absurd (.inl hb) hc
        have h0 : ¬ p.oth > 0 := fun h => hc (.inr h)
        have htp : p.top = p.frm := by unfold Pt.top; rw [if_neg h0]
        rw [hlo] at f3
        simp at f3
        have hM : ∀ i, i ≠ p.frm → (M.to.set p.frm ((k : Int) + 1)).getD i 0 = M.to.getD i 0 := fun i hi => by rw [getD_set, if_neg (by omega)]
        have hnew : (⟨p.loop, p.frm, k, p.lvs⟩ : Pt).top = k := by show (if k > 0 then k else p.frm) = k; rw [if_pos (by omega)]
        refine ⟨fun x hx hx2 => ?_, fun x hx hx2 => ?_, fun x hx hx2 => ?_, fun x hx h1 h2 h3 h4 => ?_⟩
        · have e : x ≠ k := fun e => h63 (e ▸ hx2)
          by_cases hxp : x = p.frm
          · subst hxp
            refine .inr ?_
            show (p.frm : Int) < (M.to.set p.frm _).getD p.frm 0 ∧ (M.to.set p.frm _).getD p.frm 0 ≤ _
            rw [getD_set, if_pos ⟨rfl, by rw [h.lenM]; omega⟩]
            omega
          · rcases w.ifs x (by omega) hx2 with ⟨z, hz, g1, g2⟩ | ⟨g1, g2⟩
            · rw [ho] at hz
              rcases List.mem_cons.1 hz with rfl | hz
              · exact absurd (g2.symm.trans htp) hxp
              · exact .inl ⟨z, List.mem_cons_of_mem _ hz, g1, g2⟩
            · refine .inr ?_
              show _ < (M.to.set p.frm _).getD x 0 ∧ (M.to.set p.frm _).getD x 0 ≤ _
              rw [hM x hxp]
              omega
        · by_cases e : x = k
          · exact .inl ⟨_, List.mem_cons_self .., hlo, hnew.trans e.symm⟩
          · have hxp : x ≠ p.frm := fun e => by rw [e, f3] at hx2; exact absurd hx2 (by decide)
            rcases w.oth x (by omega) hx2 with ⟨z, hz, g1, g2⟩ | ⟨g1, g2⟩
            · rw [ho] at hz
              rcases List.mem_cons.1 hz with rfl | hz
              · exact absurd (g2.symm.trans htp) hxp
              · exact .inl ⟨z, List.mem_cons_of_mem _ hz, g1, g2⟩
            · refine .inr ?_
              show _ < (M.to.set p.frm _).getD x 0 ∧ (M.to.set p.frm _).getD x 0 ≤ _
              rw [hM x hxp]
              omega
        · have e : x ≠ k := fun e => by rw [e, h58] at hx2; exact absurd hx2 (by decide)
          have hxp : x ≠ p.frm := fun e => by rw [e, f3] at hx2; exact absurd hx2 (by decide)
          show 0 ≤ (M.to.set p.frm _).getD x 0 ∧ (M.to.set p.frm _).getD x 0 < _ ∧ sgn l ((M.to.set p.frm _).getD x 0).toNat = 91
          rw [hM x hxp]
          exact w.back x (by omega) hx2
        · have e : x ≠ k := fun e => h2 (e ▸ h58)
          have hxp : x ≠ p.frm := fun e => h1 (e ▸ f3)
          show (M.to.set p.frm _).getD x 0 = -1
          rw [hM x hxp]
          exact w.none x (by omega) h1 h2 h3 h4
  rw [if_neg h58] at hs
  by_cases h59 : sgn l k = 59
  · rw [if_pos h59] at hs
    unfold Ms.endIf at hs
    cases ho : M.opn with
    | nil => rw [ho] at hs; cases hs
    | cons p q =>
      rw [ho] at hs
      simp only at hs
      have hp : p ∈ M.opn := by rw [ho]; exact List.mem_cons_self ..
      have hts := top_sgn h hp
      have htk := top_lt h hp
      split at hs
      · cases hs
      · rename_i hc
        rw [if_neg hc] at hts
        simp only [Option.some.injEq] at hs
        subst hs
        have hM : ∀ i, i ≠ p.top → (M.to.set p.top (k : Int)).getD i 0 = M.to.getD i 0 := fun i hi => by rw [getD_set, if_neg (by omega)]
        have hT : (M.to.set p.top (k : Int)).getD p.top 0 = k := by rw [getD_set, if_pos ⟨rfl, by rw [h.lenM]; omega⟩]
        have h2s : sgn l p.top = 63 ∨ sgn l p.top = 58 := by
          rw [hts]
          split
          · exact .inr rfl
          · exact .inl rfl
        refine ⟨fun x hx hx2 => ?_, fun x hx hx2 => ?_, fun x hx hx2 => ?_, fun x hx h1 h2 h3 h4 => ?_⟩
        all_goals try show _ ∨ (_ < (M.to.set p.top _).getD x 0 ∧ (M.to.set p.top _).getD x 0 ≤ _)
        · have e : x ≠ k := fun e => h63 (e ▸ hx2)
          by_cases hxp : x = p.top
          · subst hxp
            rw [hT]
            exact .inr (by omega)
          · rcases w.ifs x (by omega) hx2 with ⟨z, hz, g1, g2⟩ | ⟨g1, g2⟩
            · rw [ho] at hz
              rcases List.mem_cons.1 hz with rfl | hz
              · exact absurd g2.symm hxp
              · exact .inl ⟨z, hz, g1, g2⟩
            · rw [hM x hxp]
              exact .inr (by omega)
        · have e : x ≠ k := fun e => h58 (e ▸ hx2)
          by_cases hxp : x = p.top
          · subst hxp
            rw [hT]
            exact .inr (by omega)
          · rcases w.oth x (by omega) hx2 with ⟨z, hz, g1, g2⟩ | ⟨g1, g2⟩
            · rw [ho] at hz
              rcases List.mem_cons.1 hz with rfl | hz
              · exact absurd g2.symm hxp
              · exact .inl ⟨z, hz, g1, g2⟩
            · rw [hM x hxp]
              exact .inr (by omega)
        · have e : x ≠ k := fun e => by rw [e, h59] at hx2; exact absurd hx2 (by decide)
          have hxp : x ≠ p.top := fun e => by rcases h2s with h | h <;> (rw [e, h] at hx2; exact absurd hx2 (by decide))
          show 0 ≤ (M.to.set p.top _).getD x 0 ∧ (M.to.set p.top _).getD x 0 < _ ∧ sgn l ((M.to.set p.top _).getD x 0).toNat = 91
          rw [hM x hxp]
          exact w.back x (by omega) hx2
        · have hxp : x ≠ p.top := fun e => by rcases h2s with h | h; exact h1 (e ▸ h); exact h2 (e ▸ h)
          show (M.to.set p.top _).getD x 0 = -1
          rw [hM x hxp]
          by_cases e : x = k
          · subst e
            exact hrest
          · exact w.none x (by omega) h1 h2 h3 h4
  rw [if_neg h59] at hs
  by_cases h93 : sgn l k = 93
  · rw [if_pos h93] at hs
    unfold Ms.endLoop at hs
    cases ho : M.opn with
    | nil => rw [ho] at hs; cases hs
    | cons p q =>
      rw [ho] at hs
      simp only at hs
      have hp : p ∈ M.opn := by rw [ho]; exact List.mem_cons_self ..
      obtain ⟨f1, f2, f3, f4, f5⟩ := h.part p hp
      have hlv := h.lvs p hp
      split at hs
      · rename_i hc
        simp only [Option.some.injEq] at hs
        subst hs
        rw [if_pos hc] at f3
        have hlen : ∀ y ∈ p.lvs, y < (M.to.set k (p.frm : Int)).length := fun y hy => by
          rw [List.length_set, h.lenM]
          have := (hlv y hy).2.1
          omega
        have hM : ∀ x, sgn l x ≠ 126 → (setAll (M.to.set k (p.frm : Int)) p.lvs ((k : Int) + 1)).getD x 0 = if k = x then (p.frm : Int) else M.to.getD x 0 := fun x hx => by
          rw [setAll_getD _ _ _ _ hlen, if_neg (fun hm => hx (hlv x hm).2.2), getD_set, h.lenM]
          by_cases hxk : k = x
          · subst hxk
            simp [hk]
          · simp [hxk]
        refine ⟨fun x hx hx2 => ?_, fun x hx hx2 => ?_, fun x hx hx2 => ?_, fun x hx h1 h2 h3 h4 => ?_⟩
        all_goals try show _ ∨ (_ < (setAll (M.to.set k (p.frm : Int)) p.lvs ((k : Int) + 1)).getD x 0 ∧ (setAll (M.to.set k (p.frm : Int)) p.lvs ((k : Int) + 1)).getD x 0 ≤ _)
        · have e : k ≠ x := fun e => h63 (e ▸ hx2)
          rw [hM x (by rw [hx2]; decide), if_neg e]
          rcases w.ifs x (by omega) hx2 with ⟨z, hz, g1, g2⟩ | ⟨g1, g2⟩
          · rw [ho] at hz
            rcases List.mem_cons.1 hz with rfl | hz
            · rw [hc] at g1; cases g1
            · exact .inl ⟨z, hz, g1, g2⟩
          · exact .inr (by omega)
        · have e : k ≠ x := fun e => h58 (e ▸ hx2)
          rw [hM x (by rw [hx2]; decide), if_neg e]
          rcases w.oth x (by omega) hx2 with ⟨z, hz, g1, g2⟩ | ⟨g1, g2⟩
          · rw [ho] at hz
            rcases List.mem_cons.1 hz with rfl | hz
            · rw [hc] at g1; cases g1
            · exact .inl ⟨z, hz, g1, g2⟩
          · exact .inr (by omega)
        · show 0 ≤ (setAll (M.to.set k (p.frm : Int)) p.lvs ((k : Int) + 1)).getD x 0 ∧ (setAll (M.to.set k (p.frm : Int)) p.lvs ((k : Int) + 1)).getD x 0 < _ ∧ sgn l ((setAll (M.to.set k (p.frm : Int)) p.lvs ((k : Int) + 1)).getD x 0).toNat = 91
          rw [hM x (by rw [hx2]; decide)]
          by_cases e : k = x
          · subst e
            rw [if_pos rfl]
            exact ⟨by omega, by omega, by rw [Int.toNat_natCast]; exact f3⟩
          · rw [if_neg e]
            exact w.back x (by omega) hx2
        · show (setAll (M.to.set k (p.frm : Int)) p.lvs ((k : Int) + 1)).getD x 0 = -1
          have e : k ≠ x := fun e => h3 (e ▸ h93)
          rw [hM x h4, if_neg e]
          exact w.none x (by omega) h1 h2 h3 h4
      · cases hs
  rw [if_neg h93] at hs
  have hgen : ∀ N : Ms, N.to = M.to → (∀ z ∈ M.opn, ∃ z' ∈ N.opn, z'.loop = z.loop ∧ z'.top = z.top) → WInv l (k + 1) N := fun N hto hop => by
    refine ⟨fun x hx hx2 => ?_, fun x hx hx2 => ?_, fun x hx hx2 => ?_, fun x hx h1 h2 h3 h4 => ?_⟩
    all_goals rw [hto]
    · have e : x ≠ k := fun e => h63 (e ▸ hx2)
      rcases w.ifs x (by omega) hx2 with ⟨z, hz, g1, g2⟩ | ⟨g1, g2⟩
      · obtain ⟨z', hz', e1, e2⟩ := hop z hz
        exact .inl ⟨z', hz', e1.trans g1, e2.trans g2⟩
      · exact .inr (by omega)
    · have e : x ≠ k := fun e => h58 (e ▸ hx2)
      rcases w.oth x (by omega) hx2 with ⟨z, hz, g1, g2⟩ | ⟨g1, g2⟩
      · obtain ⟨z', hz', e1, e2⟩ := hop z hz
        exact .inl ⟨z', hz', e1.trans g1, e2.trans g2⟩
      · exact .inr (by omega)
    · have e : x ≠ k := fun e => h93 (e ▸ hx2)
      exact w.back x (by omega) hx2
    · by_cases e : x = k
      · subst e
        exact hrest
      · exact w.none x (by omega) h1 h2 h3 h4
  by_cases h126 : sgn l k = 126
  · rw [if_pos h126] at hs
    unfold Ms.leave at hs
    cases hli : leaveIn k M.opn with
    | none => rw [hli] at hs; cases hs
    | some o =>
      rw [hli] at hs
      simp only [Option.map_some, Option.some.injEq] at hs
      subst hs
      have hlp : ∃ p ∈ M.opn, p.loop = true := by
        apply Classical.byContradiction
        intro hn
        rw [leaveIn_none k M.opn (fun p hp => by cases hb : p.loop with | false => rfl | true => exact absurd ⟨p, hp, hb⟩ hn)] at hli
        cases hli
      obtain ⟨A, p, B, g1, g2, g3, g4⟩ := leaveIn_some k M.opn hlp
      rw [hli] at g4
      simp only [Option.some.injEq] at g4
      refine hgen _ rfl (fun z hz => ?_)
      rw [g1] at hz
      show ∃ z' ∈ o, _
      rw [g4]
      rcases List.mem_append.1 hz with hz | hz
      · exact ⟨z, List.mem_append_left _ hz, rfl, rfl⟩
      · rcases List.mem_cons.1 hz with rfl | hz
        · exact ⟨_, List.mem_append_right _ (List.mem_cons_self ..), rfl, rfl⟩
        · exact ⟨z, List.mem_append_right _ (List.mem_cons_of_mem _ hz), rfl, rfl⟩
  · rw [if_neg h126] at hs
    simp only [Option.some.injEq] at hs
    subst hs
    exact hgen _ rfl (fun z hz => ⟨z, hz, rfl, rfl⟩)
theorem winv_run {l : List Int} : ∀ (rest : List Int) (k : Nat) (M M' : Ms) (R : Rs), l.drop k = rest → NInv l k M R → WInv l k M → M.run k rest = some M' → ∃ R', NInv l l.length M' R' ∧ WInv l l.length M'
  | [], k, M, M', R, hr, h, w, hs => by
    have : k = l.length := by
      rcases Nat.lt_or_ge k l.length with h1 | h1
      · rw [List.drop_eq_getElem_cons h1] at hr; cases hr
      · have := h.kl; omega
    subst this
    simp only [Ms.run, Option.some.injEq] at hs
    subst hs
    exact ⟨R, h, w⟩
  | s :: t, k, M, M', R, hr, h, w, hs => by
    obtain ⟨hk, rfl, h3⟩ := sgn_drop hr
    unfold Ms.run at hs
    cases hst : M.step k (sgn l k) with
    | none => rw [hst] at hs; cases hs
    | some M1 =>
      rw [hst] at hs
      have w1 := winv_step h w hk hst
      by_cases hn : sgn l k = 126
      · have e1 : M.step k (sgn l k) = M.leave k := by unfold Ms.step; rw [hn]; rfl
        have hlp : ∃ p ∈ M.opn, p.loop = true := by
          apply Classical.byContradiction
          intro hn2
          rw [e1] at hst
          unfold Ms.leave at hst
          rw [leaveIn_none k M.opn (fun p hp => by cases hb : p.loop with | false => rfl | true => exact absurd ⟨p, hp, hb⟩ hn2)] at hst
          cases hst
        obtain ⟨A, p, B, g1, g2, g3, g4⟩ := leaveIn_some k M.opn hlp
        have e3 : M.leave k = some ⟨M.to, A ++ ⟨p.loop, p.frm, p.oth, p.lvs ++ [k]⟩ :: B, M.deep⟩ := by unfold Ms.leave; rw [g4]; rfl
        rw [e1, e3] at hst
        simp only [Option.some.injEq] at hst
        subst hst
        exact winv_run t (k + 1) _ M' _ h3 (inv_leave h hk hn A B p g1 g2 g3) w1 hs
      · rcases step_both h hk hn with ⟨e1, e2⟩ | ⟨M2, R2, e1, e2, hi⟩
        · rw [hst] at e1
          cases e1
        · rw [hst] at e1
          simp only [Option.some.injEq] at e1
          subst e1
          exact winv_run t (k + 1) M1 M' R2 h3 hi w1 hs
theorem init_inv (l : List Int) : NInv l 0 (Ms.init l.length) ⟨List.replicate l.length 0, [], 0⟩ := by
  refine ⟨by omega, by simp [Ms.init], by simp, rfl, by simp [Ms.init], by simp [Ms.init], rfl, fun x hx => by omega, fun x _ hx => ?_, by simp [Ms.init], fun x hx => by omega⟩
  simp [Ms.init, List.getD_eq_getElem?_getD, List.getElem?_replicate, hx]
theorem nestOf_within {l to : List Int} {d : Nat} (h : nestOf l = some (to, d)) : to.length = l.length ∧ ∀ x, x < l.length →
    (sgn l x = 63 ∨ sgn l x = 58 ∨ sgn l x = 126 → (x : Int) < to.getD x 0 ∧ to.getD x 0 ≤ (l.length : Int)) ∧
    (sgn l x = 93 → 0 ≤ to.getD x 0 ∧ to.getD x 0 < (x : Int) ∧ sgn l (to.getD x 0).toNat = 91) ∧
    (sgn l x ≠ 63 → sgn l x ≠ 58 → sgn l x ≠ 126 → sgn l x ≠ 93 → to.getD x 0 = -1) := by
  unfold nestOf at h
  cases hr : (Ms.init l.length).run 0 l with
  | none => rw [hr] at h; cases h
  | some m =>
    rw [hr] at h
    simp only at h
    split at h
    · rename_i ho
      simp only [Option.some.injEq, Prod.mk.injEq] at h
      obtain ⟨rfl, rfl⟩ := h
      obtain ⟨R', hn, hw⟩ := winv_run l 0 _ m _ rfl (init_inv l) ⟨fun x hx => by omega, fun x hx => by omega, fun x hx => by omega, fun x hx => by omega⟩ hr
      refine ⟨hn.lenM, fun x hx => ⟨fun hs => ?_, fun hs => hw.back x hx hs, fun h1 h2 h3 h4 => hw.none x hx h1 h2 h4 h3⟩⟩
      rcases hs with hs | hs | hs
      · rcases hw.ifs x hx hs with ⟨p, hp, _⟩ | h
        · rw [ho] at hp; cases hp
        · exact h
      · rcases hw.oth x hx hs with ⟨p, hp, _⟩ | h
        · rw [ho] at hp; cases hp
        · exact h
      · rcases hn.tilde x hx hs with ⟨_, _, p, A, B, h3, _⟩ | ⟨c, h1, h2, h3, h4, _⟩
        · rw [ho] at h3
          simp at h3
        · rw [h4]
          omega
    · cases h
/-! a matched code in another one's place -/
def sh (d : Nat) (v : Int) : Int := if v < 0 then v else v + d
def Pt.sh (d : Nat) (p : Pt) : Pt := ⟨p.loop, p.frm + d, if p.oth > 0 then p.oth + d else 0, p.lvs.map (· + d)⟩
structure Sim (d i n : Nat) (pre post : List Int) (base : List Pt) (D : Nat) (m m' : Ms) : Prop where
  pl : pre.length = d
  ln : m.to.length = n
  to : m'.to = pre ++ m.to.map (sh d) ++ post
  opn : m'.opn = m.opn.map (Pt.sh d) ++ base
  deep : m'.deep = max D (m.deep + base.length)
  dp : m.opn.length ≤ m.deep
  wf : ∀ p ∈ m.opn, p.frm < i ∧ p.oth < i ∧ ∀ y ∈ p.lvs, y < i
theorem sim_set (pre post X : List Int) (d j : Nat) (v : Int) (hp : pre.length = d) (hj : j < X.length) : (pre ++ X.map (sh d) ++ post).set (j + d) (sh d v) = pre ++ (X.set j v).map (sh d) ++ post := by
  have h1 : j + d - pre.length = j := by omega
  rw [List.append_assoc, List.set_append_right _ _ (by omega), h1, List.append_assoc, List.set_append_left _ _ (by rw [List.length_map]; omega), List.map_set]
theorem sim_setAll (pre post : List Int) (d : Nat) (v : Int) (hp : pre.length = d) : ∀ (ys : List Nat) (X : List Int), (∀ y ∈ ys, y < X.length) → setAll (pre ++ X.map (sh d) ++ post) (ys.map (· + d)) (sh d v) = pre ++ (setAll X ys v).map (sh d) ++ post
  | [], X, _ => rfl
  | y :: ys, X, h => by
    have e1 : setAll (pre ++ X.map (sh d) ++ post) ((y :: ys).map (· + d)) (sh d v) = setAll ((pre ++ X.map (sh d) ++ post).set (y + d) (sh d v)) (ys.map (· + d)) (sh d v) := rfl
    have e2 : setAll X (y :: ys) v = setAll (X.set y v) ys v := rfl
    rw [e1, e2, sim_set pre post X d y v hp (h y (List.mem_cons_self ..))]
    exact sim_setAll pre post d v hp ys _ (fun z hz => by rw [List.length_set]; exact h z (List.mem_cons_of_mem _ hz))
theorem sh_nat (d k : Nat) : sh d (k : Int) = ((k + d : Nat) : Int) := by unfold sh; rw [if_neg (by omega)]; omega
theorem sh_nat1 (d k : Nat) : sh d ((k : Int) + 1) = ((k + d : Nat) : Int) + 1 := by unfold sh; rw [if_neg (by omega)]; omega
theorem leaveIn_sh (d i : Nat) (base : List Pt) : ∀ (o o' : List Pt), leaveIn i o = some o' → leaveIn (i + d) (o.map (Pt.sh d) ++ base) = some (o'.map (Pt.sh d) ++ base)
  | [], _, h => by cases h
  | p :: q, o', h => by
    unfold leaveIn at h
    rw [List.map_cons, List.cons_append]
    unfold leaveIn
    have hl : (Pt.sh d p).loop = p.loop := rfl
    rw [hl]
    split at h
    · rename_i hp
      simp only [Option.some.injEq] at h
      subst h
      rw [if_pos hp]
      simp [Pt.sh]
    · rename_i hp
      rw [if_neg hp]
      cases hq : leaveIn i q with
      | none => rw [hq] at h; cases h
      | some q' =>
        rw [hq] at h
        simp only [Option.map_some, Option.some.injEq] at h
        subst h
        rw [leaveIn_sh d i base q q' hq]
        rfl
theorem leaveIn_wf (i : Nat) : ∀ (o o' : List Pt), leaveIn i o = some o' → o'.length = o.length ∧ ∀ p ∈ o', ∃ z ∈ o, p.frm = z.frm ∧ p.oth = z.oth ∧ ∀ y ∈ p.lvs, y ∈ z.lvs ∨ y = i
  | [], _, h => by cases h
  | p :: q, o', h => by
    unfold leaveIn at h
    split at h
    · simp only [Option.some.injEq] at h
      subst h
      refine ⟨rfl, fun z hz => ?_⟩
      rcases List.mem_cons.1 hz with rfl | hz
      · exact ⟨p, List.mem_cons_self .., rfl, rfl, fun y hy => by
          rcases List.mem_append.1 hy with hy | hy
          · exact .inl hy
          · exact .inr (by simpa using hy)⟩
      · exact ⟨z, List.mem_cons_of_mem _ hz, rfl, rfl, fun y hy => .inl hy⟩
    · cases hq : leaveIn i q with
      | none => rw [hq] at h; cases h
      | some q' =>
        rw [hq] at h
        simp only [Option.map_some, Option.some.injEq] at h
        subst h
        obtain ⟨h1, h2⟩ := leaveIn_wf i q q' hq
        refine ⟨by simp [h1], fun z hz => ?_⟩
        rcases List.mem_cons.1 hz with rfl | hz
        · exact ⟨z, List.mem_cons_self .., rfl, rfl, fun y hy => .inl hy⟩
        · obtain ⟨z', hz', e⟩ := h2 z hz
          exact ⟨z', List.mem_cons_of_mem _ hz', e⟩
theorem sim_step {d i n : Nat} {pre post : List Int} {base : List Pt} {D : Nat} {m m' k : Ms} (h : Sim d i n pre post base D m m') (hi : i < n) (s : Int) (hs : m.step i s = some k) (hd : k.deep + base.length ≤ 16) :
    ∃ k', m'.step (i + d) s = some k' ∧ Sim d (i + 1) n pre post base D k k' := by
  have hlen : m'.opn.length = m.opn.length + base.length := by rw [h.opn]; simp
  have hwf : ∀ p ∈ m.opn, p.frm < i + 1 ∧ p.oth < i + 1 ∧ ∀ y ∈ p.lvs, y < i + 1 := fun p hp => by
    obtain ⟨a, b, c⟩ := h.wf p hp
    exact ⟨by omega, by omega, fun y hy => by have := c y hy; omega⟩
  unfold Ms.step at hs ⊢
  have hbeg : ∀ b : Bool, m.begin i b = k → ∃ k', (if m'.opn.length < 16 then some (m'.begin (i + d) b) else none) = some k' ∧ Sim d (i + 1) n pre post base D k k' := fun b hb => by
    subst hb
    have hd' : max m.deep (m.opn.length + 1) + base.length ≤ 16 := hd
    have hdp := h.dp
    refine ⟨m'.begin (i + d) b, by rw [if_pos (by omega)], h.pl, h.ln, h.to, ?_, ?_, ?_, ?_⟩
    · show _ :: m'.opn = _
      rw [h.opn]
      rfl
    · show max m'.deep (m'.opn.length + 1) = max D (max m.deep (m.opn.length + 1) + base.length)
      rw [h.deep, hlen]
      omega
    · show (_ :: m.opn).length ≤ max m.deep (m.opn.length + 1)
      simp
      omega
    · intro p hp
      rcases List.mem_cons.1 hp with rfl | hp
      · exact ⟨by simp, by simp, by simp⟩
      · exact hwf p hp
  by_cases h63 : s = 63
  · rw [if_pos h63] at hs ⊢
    split at hs
    · simp only [Option.some.injEq] at hs
      exact hbeg false hs
    · cases hs
  rw [if_neg h63] at hs ⊢
  by_cases h91 : s = 91
  · rw [if_pos h91] at hs ⊢
    split at hs
    · simp only [Option.some.injEq] at hs
      exact hbeg true hs
    · cases hs
  rw [if_neg h91] at hs ⊢
  by_cases h58 : s = 58
  · rw [if_pos h58] at hs ⊢
    unfold Ms.other at hs ⊢
    cases ho : m.opn with
    | nil => rw [ho] at hs; cases hs
    | cons p q =>
      rw [ho] at hs
      have ho' : m'.opn = p.sh d :: (q.map (Pt.sh d) ++ base) := by rw [h.opn, ho]; rfl
      rw [ho']
      simp only at hs ⊢
      split at hs
      · cases hs
      · rename_i hc
        simp only [Option.some.injEq] at hs
        subst hs
        have hp : p ∈ m.opn := by rw [ho]; exact List.mem_cons_self ..
        obtain ⟨f1, f2, f3⟩ := h.wf p hp
        have h0 : p.oth = 0 := by
          rcases Nat.eq_zero_or_pos p.oth with h | h
          · exact h
          · exact absurd (.inr h) hc
        rw [if_neg (by
          rintro (h | h)
          · exact hc (.inl h)
          · have : (Pt.sh d p).oth = 0 := by show (if p.oth > 0 then _ else 0) = 0; rw [if_neg (by omega)]
            omega)]
        have hdp := h.dp
        refine ⟨_, rfl, h.pl, by simp [h.ln], ?_, ?_, h.deep, by rw [ho] at hdp; exact hdp, ?_⟩
        · show m'.to.set (p.frm + d) (((i + d : Nat) : Int) + 1) = pre ++ (m.to.set p.frm ((i : Int) + 1)).map (sh d) ++ post
          rw [h.to, ← sh_nat1, sim_set pre post m.to d p.frm _ h.pl (by rw [h.ln]; omega)]
        · show (⟨p.loop, p.frm + d, i + d, p.lvs.map (· + d)⟩ : Pt) :: (q.map (Pt.sh d) ++ base) = Pt.sh d ⟨p.loop, p.frm, i, p.lvs⟩ :: q.map (Pt.sh d) ++ base
          have : Pt.sh d ⟨p.loop, p.frm, i, p.lvs⟩ = ⟨p.loop, p.frm + d, i + d, p.lvs.map (· + d)⟩ := by
            unfold Pt.sh
            simp only
            rw [if_pos (by omega)]
          rw [this]
          rfl
        · intro z hz
          rcases List.mem_cons.1 hz with rfl | hz
          · exact ⟨by show p.frm < _; omega, by show i < _; omega, fun y hy => by have := f3 y hy; omega⟩
          · exact hwf z (by rw [ho]; exact List.mem_cons_of_mem _ hz)
  rw [if_neg h58] at hs ⊢
  by_cases h59 : s = 59
  · rw [if_pos h59] at hs ⊢
    unfold Ms.endIf at hs ⊢
    cases ho : m.opn with
    | nil => rw [ho] at hs; cases hs
    | cons p q =>
      rw [ho] at hs
      have ho' : m'.opn = p.sh d :: (q.map (Pt.sh d) ++ base) := by rw [h.opn, ho]; rfl
      rw [ho']
      simp only at hs ⊢
      split at hs
      · cases hs
      · rename_i hc
        simp only [Option.some.injEq] at hs
        subst hs
        have hp : p ∈ m.opn := by rw [ho]; exact List.mem_cons_self ..
        obtain ⟨f1, f2, f3⟩ := h.wf p hp
        rw [if_neg (show ¬ (Pt.sh d p).loop = true from hc)]
        have hdp := h.dp
        rw [ho] at hdp
        refine ⟨_, rfl, h.pl, by simp [h.ln], ?_, rfl, h.deep, by simp at hdp ⊢; omega, fun z hz => hwf z (by rw [ho]; exact List.mem_cons_of_mem _ hz)⟩
        show m'.to.set (if (Pt.sh d p).oth > 0 then (Pt.sh d p).oth else p.frm + d) ((i + d : Nat) : Int) = pre ++ (m.to.set (if p.oth > 0 then p.oth else p.frm) (i : Int)).map (sh d) ++ post
        have e : (if (Pt.sh d p).oth > 0 then (Pt.sh d p).oth else p.frm + d) = (if p.oth > 0 then p.oth else p.frm) + d := by
          show (if (if p.oth > 0 then p.oth + d else 0) > 0 then (if p.oth > 0 then p.oth + d else 0) else p.frm + d) = _
          split <;> split <;> omega
        rw [e, h.to, ← sh_nat, sim_set pre post m.to d _ _ h.pl (by rw [h.ln]; split <;> omega)]
  rw [if_neg h59] at hs ⊢
  by_cases h93 : s = 93
  · rw [if_pos h93] at hs ⊢
    unfold Ms.endLoop at hs ⊢
    cases ho : m.opn with
    | nil => rw [ho] at hs; cases hs
    | cons p q =>
      rw [ho] at hs
      have ho' : m'.opn = p.sh d :: (q.map (Pt.sh d) ++ base) := by rw [h.opn, ho]; rfl
      rw [ho']
      simp only at hs ⊢
      split at hs
      · rename_i hc
        simp only [Option.some.injEq] at hs
        subst hs
        have hp : p ∈ m.opn := by rw [ho]; exact List.mem_cons_self ..
        obtain ⟨f1, f2, f3⟩ := h.wf p hp
        rw [if_pos (show (Pt.sh d p).loop = true from hc)]
        have hdp := h.dp
        rw [ho] at hdp
        refine ⟨_, rfl, h.pl, by rw [setAll_length]; simp [h.ln], ?_, rfl, h.deep, by simp at hdp ⊢; omega, fun z hz => hwf z (by rw [ho]; exact List.mem_cons_of_mem _ hz)⟩
        show setAll (m'.to.set (i + d) ((p.frm + d : Nat) : Int)) (p.lvs.map (· + d)) (((i + d : Nat) : Int) + 1) = pre ++ (setAll (m.to.set i (p.frm : Int)) p.lvs ((i : Int) + 1)).map (sh d) ++ post
        rw [h.to, ← sh_nat, ← sh_nat1, sim_set pre post m.to d i _ h.pl (by rw [h.ln]; exact hi), sim_setAll pre post d _ h.pl _ _ (fun y hy => by rw [List.length_set, h.ln]; have := f3 y hy; omega)]
      · cases hs
  rw [if_neg h93] at hs ⊢
  by_cases h126 : s = 126
  · rw [if_pos h126] at hs ⊢
    unfold Ms.leave at hs ⊢
    cases hli : leaveIn i m.opn with
    | none => rw [hli] at hs; cases hs
    | some o =>
      rw [hli] at hs
      simp only [Option.map_some, Option.some.injEq] at hs
      subst hs
      rw [h.opn, leaveIn_sh d i base _ _ hli]
      obtain ⟨hl, hw⟩ := leaveIn_wf i _ _ hli
      have hdp := h.dp
      refine ⟨_, rfl, h.pl, h.ln, h.to, rfl, h.deep, by show o.length ≤ m.deep; omega, fun z hz => ?_⟩
      obtain ⟨z', hz', e1, e2, e3⟩ := hw z hz
      obtain ⟨f1, f2, f3⟩ := h.wf z' hz'
      refine ⟨by omega, by omega, fun y hy => ?_⟩
      rcases e3 y hy with h | h
      · have := f3 y h; omega
      · omega
  · rw [if_neg h126] at hs ⊢
    simp only [Option.some.injEq] at hs
    subst hs
    exact ⟨m', rfl, h.pl, h.ln, h.to, h.opn, h.deep, h.dp, hwf⟩
theorem step_deep {m k : Ms} {i : Nat} {s : Int} (h : m.step i s = some k) : m.deep ≤ k.deep := by
  unfold Ms.step at h
  repeat' split at h
  all_goals try cases h
  all_goals try (simp [Ms.begin]; omega)
  · unfold Ms.other at h
    split at h
    · cases h
    · split at h
      · cases h
      · simp only [Option.some.injEq] at h; subst h; exact Nat.le_refl _
  · unfold Ms.endIf at h
    split at h
    · cases h
    · split at h
      · cases h
      · simp only [Option.some.injEq] at h; subst h; exact Nat.le_refl _
  · unfold Ms.endLoop at h
    split at h
    · cases h
    · split at h
      · simp only [Option.some.injEq] at h; subst h; exact Nat.le_refl _
      · cases h
  · unfold Ms.leave at h
    cases hl : leaveIn i m.opn with
    | none => rw [hl] at h; cases h
    | some o => rw [hl] at h; simp only [Option.map_some, Option.some.injEq] at h; subst h; exact Nat.le_refl _
  · exact Nat.le_refl _
theorem run_deep : ∀ (l : List Int) (m k : Ms) (i : Nat), m.run i l = some k → m.deep ≤ k.deep
  | [], m, k, i, h => by simp only [Ms.run, Option.some.injEq] at h; subst h; exact Nat.le_refl _
  | s :: l, m, k, i, h => by
    unfold Ms.run at h
    cases hs : m.step i s with
    | none => rw [hs] at h; cases h
    | some m1 =>
      rw [hs] at h
      exact Nat.le_trans (step_deep hs) (run_deep l m1 k (i + 1) h)
theorem sim_run {d n : Nat} {pre post : List Int} {base : List Pt} {D : Nat} : ∀ (l : List Int) (i : Nat) (m m' k : Ms), Sim d i n pre post base D m m' → i + l.length ≤ n → m.run i l = some k → k.deep + base.length ≤ 16 → ∃ k', m'.run (i + d) l = some k' ∧ Sim d (i + l.length) n pre post base D k k'
  | [], i, m, m', k, h, _, hs, _ => by
    simp only [Ms.run, Option.some.injEq] at hs
    subst hs
    exact ⟨m', rfl, h⟩
  | s :: l, i, m, m', k, h, hn, hs, hd => by
    unfold Ms.run at hs
    cases hst : m.step i s with
    | none => rw [hst] at hs; cases hs
    | some m1 =>
      rw [hst] at hs
      have hd1 := run_deep l m1 k (i + 1) hs
      simp at hn
      obtain ⟨m1', e1, h1⟩ := sim_step h (by omega) s hst (by omega)
      obtain ⟨k', e2, h2⟩ := sim_run l (i + 1) m1 m1' k h1 (by omega) hs hd
      refine ⟨k', ?_, ?_⟩
      · unfold Ms.run
        rw [e1]
        show m1'.run (i + d + 1) l = _
        rw [show i + d + 1 = i + 1 + d by omega]
        exact e2
      · rw [List.length_cons, show i + (l.length + 1) = i + 1 + l.length by omega]
        exact h2
theorem run_append : ∀ (l t : List Int) (m : Ms) (i : Nat), m.run i (l ++ t) = (m.run i l).bind fun k => k.run (i + l.length) t
  | [], t, m, i => rfl
  | s :: l, t, m, i => by
    show (m.step i s).bind _ = ((m.step i s).bind _).bind _
    cases m.step i s with
    | none => rfl
    | some m1 =>
      show m1.run (i + 1) (l ++ t) = (m1.run (i + 1) l).bind _
      rw [run_append l t m1 (i + 1), List.length_cons, show i + 1 + l.length = i + (l.length + 1) by omega]
theorem nestOf_some {l to : List Int} {d : Nat} (h : nestOf l = some (to, d)) : ∃ m, (Ms.init l.length).run 0 l = some m ∧ m.opn = [] ∧ m.to = to ∧ m.deep = d := by
  unfold nestOf at h
  cases hr : (Ms.init l.length).run 0 l with
  | none => rw [hr] at h; cases h
  | some m =>
    rw [hr] at h
    simp only at h
    split at h
    · simp only [Option.some.injEq, Prod.mk.injEq] at h
      exact ⟨m, rfl, by assumption, h.1, h.2⟩
    · cases h
theorem step_16 {m k : Ms} {i : Nat} {s : Int} (h : m.step i s = some k) (h0 : m.deep ≤ 16) : k.deep ≤ 16 := by
  unfold Ms.step at h
  repeat' split at h
  all_goals try cases h
  all_goals try (simp [Ms.begin]; omega)
  · unfold Ms.other at h
    split at h
    · cases h
    · split at h
      · cases h
      · simp only [Option.some.injEq] at h; subst h; exact h0
  · unfold Ms.endIf at h
    split at h
    · cases h
    · split at h
      · cases h
      · simp only [Option.some.injEq] at h; subst h; exact h0
  · unfold Ms.endLoop at h
    split at h
    · cases h
    · split at h
      · simp only [Option.some.injEq] at h; subst h; exact h0
      · cases h
  · unfold Ms.leave at h
    cases hl : leaveIn i m.opn with
    | none => rw [hl] at h; cases h
    | some o => rw [hl] at h; simp only [Option.map_some, Option.some.injEq] at h; subst h; exact h0
  · exact h0
theorem run_16 : ∀ (l : List Int) (m k : Ms) (i : Nat), m.run i l = some k → m.deep ≤ 16 → k.deep ≤ 16
  | [], m, k, i, h, h0 => by simp only [Ms.run, Option.some.injEq] at h; subst h; exact h0
  | s :: l, m, k, i, h, h0 => by
    unfold Ms.run at h
    cases hs : m.step i s with
    | none => rw [hs] at h; cases h
    | some m1 => rw [hs] at h; exact run_16 l m1 k (i + 1) h (step_16 hs h0)
theorem nestOf_deep {l to : List Int} {d : Nat} (h : nestOf l = some (to, d)) : d ≤ 16 := by
  obtain ⟨m, h1, _, _, rfl⟩ := nestOf_some h
  exact run_16 l _ m 0 h1 (by simp [Ms.init])
theorem map_sh_one (n : Nat) : (List.replicate n (-1 : Int)).map (sh 0) = List.replicate n (-1) := by simp [sh]
theorem sim_start (n d : Nat) (pre post : List Int) (base : List Pt) (D : Nat) (hp : pre.length = d) (hD : base.length ≤ D) : Sim d 0 n pre post base D (Ms.init n) ⟨pre ++ List.replicate n (-1) ++ post, base, D⟩ := by
  refine ⟨hp, by simp [Ms.init], ?_, rfl, ?_, by simp [Ms.init], by simp [Ms.init]⟩
  · show _ = pre ++ (List.replicate n (-1 : Int)).map (sh d) ++ post
    simp [sh]
  · show D = max D (0 + base.length)
    omega
theorem sh_zero (l : List Int) : l.map (sh 0) = l := by
  conv => rhs; rw [← List.map_id l]
  apply List.map_congr_left
  intro v _
  unfold sh
  split <;> simp
theorem nestOf_adds {l m p q : List Int} {a b : Nat} (hl : nestOf l = some (p, a)) (hm : nestOf m = some (q, b)) : nestOf (l ++ m) = some (p ++ q.map (sh l.length), max a b) := by
  have ha := nestOf_deep hl
  have hb := nestOf_deep hm
  obtain ⟨x, x1, x2, rfl, rfl⟩ := nestOf_some hl
  obtain ⟨y, y1, y2, rfl, rfl⟩ := nestOf_some hm
  have s1 := sim_start l.length 0 [] (List.replicate m.length (-1)) [] 0 rfl (Nat.le_refl _)
  obtain ⟨x', e1, h1⟩ := sim_run l 0 _ _ x s1 (by omega) x1 (by simpa using ha)
  have hx' : x' = ⟨x.to ++ List.replicate m.length (-1), [], x.deep⟩ := by
    have g1 := h1.to
    have g2 := h1.opn
    have g3 := h1.deep
    rw [sh_zero] at g1
    rw [x2] at g2
    cases x'
    simp at g1 g2 g3
    simp [g1, g2, g3]
  have hlen : x.to.length = l.length := h1.ln
  have s2 := sim_start m.length l.length x.to [] [] x.deep hlen (by simp)
  obtain ⟨y', e2, h2⟩ := sim_run m 0 _ _ y s2 (by omega) y1 (by simpa using hb)
  have hy' : y' = ⟨x.to ++ y.to.map (sh l.length), [], max x.deep y.deep⟩ := by
    have g1 := h2.to
    have g2 := h2.opn
    have g3 := h2.deep
    rw [y2] at g2
    cases y'
    simp at g1 g2 g3
    simp [g1, g2, g3]
  have hinit : Ms.init (l ++ m).length = ⟨[] ++ List.replicate l.length (-1) ++ List.replicate m.length (-1), [], 0⟩ := by
    unfold Ms.init
    simp
  unfold nestOf
  rw [hinit, run_append]
  rw [Nat.add_zero] at e1
  rw [e1, hx']
  simp only [Option.bind_some]
  rw [List.append_nil, Nat.zero_add] at e2
  rw [Nat.zero_add, e2, hy']
  rfl
theorem nestOf_loop {l p : List Int} {a : Nat} (hl : nestOf l = some (p, a)) (ha : a < 16) : ∃ q, nestOf (91 :: (l ++ [93])) = some (q, a + 1) := by
  obtain ⟨x, x1, x2, rfl, rfl⟩ := nestOf_some hl
  have s1 := sim_start l.length 1 [-1] [-1] [⟨true, 0, 0, []⟩] 1 rfl (by simp)
  obtain ⟨x', e1, h1⟩ := sim_run l 0 _ _ x s1 (by omega) x1 (by simp; omega)
  have g2 := h1.opn
  have g3 := h1.deep
  rw [x2] at g2
  simp at g2 g3
  have hinit : (Ms.init (91 :: (l ++ [93])).length).step 0 91 = some ⟨[-1] ++ List.replicate l.length (-1) ++ [-1], [⟨true, 0, 0, []⟩], 1⟩ := by
    unfold Ms.init Ms.step Ms.begin
    rw [if_neg (by decide), if_pos rfl, if_pos (by show 0 < 16; decide)]
    simp
    rw [List.replicate_succ']
    rfl
  unfold nestOf
  show ∃ q, (match ((Ms.init (91 :: (l ++ [93])).length).step 0 91).bind fun m' => m'.run 1 (l ++ [93]) with
    | some m => if m.opn = [] then some (m.to, m.deep) else none
    | none => none) = some (q, x.deep + 1)
  rw [hinit]
  simp only [Option.bind_some]
  rw [run_append]
  rw [Nat.zero_add] at e1
  rw [e1]
  simp only [Option.bind_some]
  unfold Ms.run
  have e2 : x'.step (1 + l.length) 93 = x'.endLoop (1 + l.length) := rfl
  rw [e2]
  unfold Ms.endLoop
  rw [g2]
  refine ⟨setAll (x'.to.set (1 + l.length) 0) [] (((1 + l.length : Nat) : Int) + 1), ?_⟩
  simp only [if_true, Option.bind_some, Ms.run]
  rw [g3]
  rfl
end Go.Proofs.Ytdbhhnphpjdmbaa
