/- Words of this seat's walks: what stays in memory, rows that a call owns, rows that are read, an append of one element. No program text. -/
import Derived.Test.YtdbhhnphpjdmbaaRows
import Derived.WalkKit
import Derived.WalkLawsBesides
import Derived.WalkSpells
import Derived.Lib.Hide
import Derived.Maps.AppendAt
import Derived.Deep.LoopGhost
import Derived.Deep.AppendLies
import Derived.BigQuiet
import Derived.Deep.QuietTactic
import Derived.Deep.DeepFit
import Derived.OrdersHeld
namespace Go.Proofs.Ytdbhhnphpjdmbaa
open Go.RowKit
set_option maxRecDepth 100000

/-- What lies outside S and was there stays. -/
structure Keeps (S : Nat → Prop) (w w' : World) : Prop where
  os : w'.os = w.os
  tape : w'.tape = w.tape
  output : w'.output = w.output
  size : w.heap.size ≤ w'.heap.size
  block : ∀ b, b < w.heap.size → ¬ S b → w'.heap[b]? = w.heap[b]?

theorem Keeps.refl (S : Nat → Prop) (w : World) : Keeps S w w := ⟨rfl, rfl, rfl, Nat.le_refl _, fun _ _ _ => rfl⟩
theorem Keeps.trans {S T : Nat → Prop} {a b c : World} (h : Keeps S a b) (k : Keeps T b c) (hT : ∀ i, T i → S i ∨ a.heap.size ≤ i) : Keeps S a c :=
  ⟨k.os.trans h.os, k.tape.trans h.tape, k.output.trans h.output, Nat.le_trans h.size k.size, fun i hi hS => (k.block i (Nat.lt_of_lt_of_le hi h.size) (fun ht => by
    rcases hT i ht with h1 | h1
    · exact hS h1
    · omega)).trans (h.block i hi hS)⟩
theorem Keeps.mono {S T : Nat → Prop} {a b : World} (h : Keeps S a b) (hS : ∀ i, S i → T i) : Keeps T a b := ⟨h.os, h.tape, h.output, h.size, fun i hi hT => h.block i hi (fun hs => hT (hS i hs))⟩
theorem Keeps.of_below {S : Nat → Prop} {a b : World} (h : Below a.heap.size a b) : Keeps S a b := ⟨h.os, h.tape, h.output, h.size, fun i hi _ => h.block i hi⟩
theorem Keeps.below {S : Nat → Prop} {B : Nat} {a b : World} (h : Keeps S a b) (hB : B ≤ a.heap.size) (hS : ∀ i, S i → B ≤ i) : Below B a b := ⟨h.os, h.tape, h.output, h.size, fun i hi => h.block i (by omega) (fun hs => by have := hS i hs; omega)⟩
theorem Keeps.of_grown {S : Nat → Prop} {row : Option Nat} {a b : World} (h : a.grownBy b row) (hS : ∀ i, row = some i → S i) : Keeps S a b := ⟨h.os, h.tape, h.output, h.size, fun i hi hs => h.block i hi (fun e => hs (hS i e.symm))⟩
theorem Keeps.alloc {S : Nat → Prop} {a b : World} (h : Keeps S a b) (o : Obj) : Keeps S a (b.alloc o) :=
  h.trans (T := fun _ => False) ⟨rfl, rfl, rfl, by simp, fun k hk _ => Below.heap_alloc _ _ _ hk⟩ (fun _ h => h.elim)
theorem Keeps.drew {S : Nat → Prop} {a b : World} (h : Keeps S a b) : Keeps S a b.drew := ⟨h.os, h.tape, h.output, h.size, h.block⟩
theorem Keeps.drewN {S : Nat → Prop} {a b : World} (h : Keeps S a b) (n : Nat) : Keeps S a (b.drewN n) := ⟨h.os, h.tape, h.output, h.size, h.block⟩
theorem Keeps.setCell {S : Nat → Prop} {a b : World} (h : Keeps S a b) {p : Addr} (hp : S p.block ∨ a.heap.size ≤ p.block) (u : Value) : Keeps S a (b.setCell p u) :=
  h.trans (T := fun i => i = p.block) ⟨rfl, rfl, rfl, by simp [World.setCell], fun k _ hk => Below.heap_setCell _ _ _ _ hk⟩ (fun i hi => by subst hi; exact hp)
theorem below_drewN' {B : Nat} {a b : World} (h : Below B a b) (n : Nat) : Below B a (b.drewN n) := ⟨h.os, h.tape, h.output, h.size, h.block⟩

/-- cells of a whole block -/
theorem blk_cell {w : World} {b : Nat} {cs : Array Value} {t : TypeId} {fr : Nat × Nat} (h : w.heap[b]? = some (.cells cs t fr)) (o : Nat) : w.cell? ⟨b, o, none⟩ = cs[o]? := by
  simp [World.cell?, h]
theorem blk_free {w : World} {b : Nat} {cs : Array Value} {t : TypeId} (h : w.heap[b]? = some (.cells cs t (0, 0))) (o : Nat) : w.frozen? ⟨b, o, none⟩ = false := by
  simp [World.frozen?, h]
theorem blk_set {w : World} {b : Nat} {cs : Array Value} {t : TypeId} {fr : Nat × Nat} (h : w.heap[b]? = some (.cells cs t fr)) (o : Nat) (u : Value) : (w.setCell ⟨b, o, none⟩ u).heap[b]? = some (.cells (cs.setIfInBounds o u) t fr) := by
  simp [World.setCell, Array.getElem?_modify, h]
theorem blk_alloc {w : World} {b : Nat} {x : Obj} (h : w.heap[b]? = some x) (o : Obj) : (w.alloc o).heap[b]? = some x := by
  rw [Below.heap_alloc _ _ _ (Array.getElem?_eq_some_iff.1 h).1]; exact h
theorem blk_lt {w : World} {b : Nat} {x : Obj} (h : w.heap[b]? = some x) : b < w.heap.size := (Array.getElem?_eq_some_iff.1 h).1
theorem blk_setOther {w : World} {b : Nat} {x : Obj} (h : w.heap[b]? = some x) {p : Addr} (hp : b ≠ p.block) (u : Value) : (w.setCell p u).heap[b]? = some x := by
  rw [Below.heap_setCell _ _ _ _ hp]; exact h

theorem own_blk {w : World} {base : Nat} {e : TypeId} {size n : Nat} {v : Value} {xs : List Value} (h : w.ownsRow base e size v n xs) (k : Nat) (hk : v.ownBlock = some k) : ∃ cells, w.heap[k]? = some (.cells cells e (0, 0)) := by
  rcases h.2 with ⟨rfl, _⟩ | ⟨g, cap, cur, rfl, hg, hh, r⟩
  · simp [Value.ownBlock] at hk
  · have : g = k := by simpa [Value.ownBlock] using hk
    subst this
    exact ⟨cur, hh⟩
/-- a block of another kind is none of this row's -/
theorem own_ne {w : World} {base : Nat} {e : TypeId} {size n : Nat} {v : Value} {xs : List Value} (h : w.ownsRow base e size v n xs) {b : Nat} {cs : Array Value} {t : TypeId} {fr : Nat × Nat} (hb : w.heap[b]? = some (.cells cs t fr)) (hne : e ≠ t) : some b ≠ v.ownBlock := by
  intro hk
  obtain ⟨cells, hc⟩ := own_blk h b hk.symm
  rw [hb] at hc
  injection hc with hc
  injection hc with _ ht
  exact hne ht.symm
theorem own_move' {w w1 : World} {base : Nat} {e : TypeId} {size n : Nat} {v : Value} {xs : List Value} (h : w.ownsRow base e size v n xs) (hm : ∀ k, v.ownBlock = some k → w1.heap[k]? = w.heap[k]?) : w1.ownsRow base e size v n xs := by
  obtain ⟨h1, h2⟩ := h
  refine ⟨h1, ?_⟩
  rcases h2 with h2 | ⟨g, cap, cur, rfl, hg, hh, r⟩
  · exact .inl h2
  · exact .inr ⟨g, cap, cur, rfl, hg, (hm g (by simp [Value.ownBlock])).trans hh, r⟩

section
variable {P : Program} {ops : Array Oper} {rest : List Oper} {o : Oper} {a : Act} {Q : Exit → Act → World → Prop}
/-- append(v, x) of one element: the goal's world is 'W.alloc' of the element's box. -/
theorem ev_append1 {W : World} (base : Nat) (hgd : o.guard = none) (s x : Operand) (t e : TypeId) (z : Value) (size bytes : Nat)
    (ho : o.op = .call { callee := .builtin .append, args := #[s, x], argTypes := #[t, t] })
    (ht : P.underlying t = some (.slice e)) (hinfo : (P.info? e).map (fun i => (i.zero, i.size, i.bytes)) = some (some z, size, bytes)) (hz : z.cells.size = size) (hs0 : 0 < size) (hb0 : 0 < bytes)
    (v : Value) (n : Nat) (xs cs : List Value) (hs : a.eval s = v) (hx : a.eval x = .slice (some ⟨W.heap.size, 0, none⟩) 1 1) (hlen : cs.length = size) (h1 : ∀ u ∈ cs, u.oneCell' = true)
    (HO : W.ownsRow base e size v n xs) (hbase : base ≤ W.heap.size) (hl : (n + 1) * bytes ≤ 140737488355328)
    (h : ∀ g1 c1 w1, w1.ownsRow base e size (.slice (some ⟨g1, 0, none⟩) (n + 1) c1) (n + 1) (xs ++ cs) → W.grownBy w1 v.ownBlock → (v.ownBlock = some g1 ∨ W.heap.size ≤ g1) → wpList P ops Q rest (a.put o.dst (.slice (some ⟨g1, 0, none⟩) (n + 1) c1)) w1) :
    wpList P ops Q (o :: rest) a (W.alloc (.cells cs.toArray e)) := by
  obtain ⟨i0, hi, hz0, hz1, hz2⟩ := info_parts hinfo
  have hlen2 : n + 1 ≤ 140737488355328 := Nat.le_trans (Nat.le_mul_of_pos_right _ hb0) hl
  refine wpList_append_own_at (W.alloc (.cells cs.toArray e)) hgd s x t ho base e i0 z size bytes ht hi hz0 hz1 hz2 hz hs0 v n xs hs (HO.alloc _) ⟨W.heap.size, 0, none⟩ 1 1 cs hx (by omega)
    (World.news_of_block (cs := cs.toArray) (t := e) (fr := (0, 0)) (heap_alloc_new W _)) h1 (by simp only [maxLen]; omega) hl (by simp; omega) ?_
  intro v1 w1 hown hg _ hat
  obtain ⟨g1, c1, rfl, _⟩ := hown.form (by omega)
  refine h g1 c1 w1 hown (World.grownBy.trans (World.grownBy_alloc W _ _) hg) ?_
  rcases hat with hat | hat
  · exact .inl (by rw [← hat]; rfl)
  · exact .inr (by have : g1 = (W.alloc (.cells cs.toArray e)).heap.size := by simpa [Value.ownBlock] using hat
                   rw [this]; simp)
section
variable {P : Program} {ops : Array Oper} {rest : List Oper} {o : Oper} {a : Act} {Q : Exit → Act → World → Prop}
/-- append(v, ys...): ys is read where it lies. -/
theorem ev_appendN {W : World} (base : Nat) (hgd : o.guard = none) (s x : Operand) (t e : TypeId) (z : Value) (size bytes : Nat)
    (ho : o.op = .call { callee := .builtin .append, args := #[s, x], argTypes := #[t, t] })
    (ht : P.underlying t = some (.slice e)) (hinfo : (P.info? e).map (fun i => (i.zero, i.size, i.bytes)) = some (some z, size, bytes)) (hz : z.cells.size = size) (hs0 : 0 < size) (hb0 : 0 < bytes)
    (v : Value) (n : Nat) (xs : List Value) (ad : Addr) (m c : Nat) (news : List Value) (hs : a.eval s = v) (hx : a.eval x = .slice (some ad) m c) (hlen : news.length = m * size) (hnews : ∀ j u, news[j]? = some u → W.cell? (ad.add j) = some u) (h1 : ∀ u ∈ news, u.oneCell' = true)
    (HO : W.ownsRow base e size v n xs) (hbase : base ≤ W.heap.size) (hl : (n + m) * bytes ≤ 140737488355328)
    (h : ∀ A1 c1 w1, w1.ownsRow base e size (.slice A1 (n + m) c1) (n + m) (xs ++ news) → W.grownBy w1 v.ownBlock → ((Value.slice A1 (n + m) c1).ownBlock = v.ownBlock ∨ (Value.slice A1 (n + m) c1).ownBlock = some W.heap.size) → wpList P ops Q rest (a.put o.dst (.slice A1 (n + m) c1)) w1) :
    wpList P ops Q (o :: rest) a W := by
  obtain ⟨i0, hi, hz0, hz1, hz2⟩ := info_parts hinfo
  have hlen2 : n + m ≤ 140737488355328 := Nat.le_trans (Nat.le_mul_of_pos_right _ hb0) hl
  refine wpList_append_own_at W hgd s x t ho base e i0 z size bytes ht hi hz0 hz1 hz2 hz hs0 v n xs hs HO ad m c news hx hlen hnews h1 (by simp only [maxLen]; omega) hl hbase ?_
  intro v1 w1 hown hg _ hat
  obtain ⟨A1, c1, rfl⟩ : ∃ A c, v1 = .slice A (n + m) c := by
    rcases hown.2 with ⟨rfl, h0⟩ | ⟨g, cap, cur, rfl, _⟩
    · exact ⟨none, 0, by rw [h0]⟩
    · exact ⟨_, cap, rfl⟩
  exact h A1 c1 w1 hown hg hat
end
/-- 'xs[k:]': one run, whatever the capacity. -/
theorem slice_from {P : Program} (t e : TypeId) (kl : IntKind) {z : Value} {size bytes : Nat} (ht : P.underlying t = some (.slice e)) (hinfo : (P.info? e).map (fun i => (i.zero, i.size, i.bytes)) = some (some z, size, bytes)) (A : Option Addr) (n c m : Nat) (hm : m ≤ n) :
    ∀ W : World, (Instr.slice t (.slice A n c) (some (.int kl (m : Int))) none none).run P W = .ok (.slice (if c = m then A else A.map (·.add (m * size))) (n - m) (c - m)) W := by
  intro W
  obtain ⟨i, hi, hz0, hz1, hz2⟩ := info_parts hinfo
  have hel : P.elem t = e := by simp [Program.elem, ht]
  have hu : P.underlying t = some (.slice (P.elem t)) := by rw [hel]; exact ht
  rw [run_slice_l W t A n c hu kl (m : Int) (Int.natCast_nonneg _) (by omega), hel]
  simp [sizeOf, typeInfo, hi, hz1, sliced, Result.andThen]
end
/-- 'xs[:k]': one run. -/
theorem slice_to {P : Program} (t e : TypeId) (kl : IntKind) {z : Value} {size bytes : Nat} (ht : P.underlying t = some (.slice e)) (hinfo : (P.info? e).map (fun i => (i.zero, i.size, i.bytes)) = some (some z, size, bytes)) (A : Option Addr) (n c m : Nat) (hm : m ≤ c) :
    ∀ W : World, (Instr.slice t (.slice A n c) none (some (.int kl (m : Int))) none).run P W = .ok (.slice A m c) W := by
  intro W
  obtain ⟨i, hi, hz0, hz1, hz2⟩ := info_parts hinfo
  have hel : P.elem t = e := by simp [Program.elem, ht]
  have hu : P.underlying t = some (.slice (P.elem t)) := by rw [hel]; exact ht
  rw [run_slice_h W t A n c hu kl (m : Int) (Int.natCast_nonneg _) (by omega), hel]
  have hadd : ∀ ad : Addr, ad.add 0 = ad := fun ad => rfl
  cases A <;> simp [sizeOf, typeInfo, hi, hz1, sliced, Result.andThen, hadd]
theorem min2_int' (k k' : IntKind) (x y : Int) : Builtin.min2 (.int k x) (.int k' y) = pure (.int k (if y < x then y else x)) := by simp only [Builtin.min2]
theorem max2_int' (k k' : IntKind) (x y : Int) : Builtin.max2 (.int k x) (.int k' y) = pure (.int k (if x < y then y else x)) := by simp only [Builtin.max2]
theorem run_min {P : Program} (ts : Array TypeId) (t : TypeId) (k : IntKind) (x y z : Int) (h : (if y < x then y else x) = z) (w : World) : (Builtin.min_ ts t #[.int k x, .int k y]).run P w = .ok (.int k z) w := by
  subst h
  simp [Builtin.min_, min2_int', go_sem]
theorem run_max {P : Program} (ts : Array TypeId) (t : TypeId) (k : IntKind) (x y z : Int) (h : (if x < y then y else x) = z) (w : World) : (Builtin.max_ ts t #[.int k x, .int k y]).run P w = .ok (.int k z) w := by
  subst h
  simp [Builtin.max_, max2_int', go_sem]

/-- the cells that lie from A on -/
def Rd (w : World) (A : Option Addr) (vs : List Value) : Prop := vs ≠ [] → ∃ ad, A = some ad ∧ ∀ (j : Nat) v, vs[j]? = some v → w.cell? (ad.add j) = some v
theorem Rd.nil (w : World) (A : Option Addr) : Rd w A [] := fun h => absurd rfl h
theorem Rd.below {w w' : World} {A : Option Addr} {vs : List Value} (h : Rd w A vs) (hb : Below w.heap.size w w') : Rd w' A vs := by
  intro hne
  obtain ⟨ad, rfl, hc⟩ := h hne
  exact ⟨ad, rfl, fun j v hv => (hb.cell (World.block_lt_of_cell? w _ (hc j v hv))).trans (hc j v hv)⟩
theorem own_rd {w : World} {base : Nat} {e : TypeId} {size n c : Nat} {A : Option Addr} {xs : List Value} (h : w.ownsRow base e size (.slice A n c) n xs) : Rd w A xs := by
  intro hne
  rcases h.2 with ⟨h1, h0⟩ | ⟨g, cap, cur, h1, _⟩
  · exact absurd (List.eq_nil_of_length_eq_zero (by rw [h.1, h0]; simp)) hne
  · injection h1 with h1 h2 h3
    subst h1 h3
    exact ⟨_, rfl, fun j v hv => h.cells (g := g) rfl j v hv⟩
theorem own_below {w w1 : World} {base : Nat} {e : TypeId} {size n : Nat} {v : Value} {xs : List Value} (h : w.ownsRow base e size v n xs) (hb : Below w.heap.size w w1) : w1.ownsRow base e size v n xs :=
  own_move' h (fun k hk => hb.block k (h.lt k hk).2)
theorem own_base {w : World} {base B : Nat} {e : TypeId} {size n : Nat} {v : Value} {xs : List Value} (h : w.ownsRow base e size v n xs) (hB : B ≤ base) : w.ownsRow B e size v n xs := by
  refine ⟨h.1, ?_⟩
  rcases h.2 with h | ⟨g, cap, cur, hv, hb, r⟩
  · exact .inl h
  · exact .inr ⟨g, cap, cur, hv, Nat.le_trans hB hb, r⟩
theorem wrap_u32 (x : Int) : IntKind.u32.wrap x = x % 4294967296 := by simp [IntKind.wrap, IntKind.signed, IntKind.bits]
theorem wrap_u8 (x : Int) : IntKind.u8.wrap x = x % 256 := by simp [IntKind.wrap, IntKind.signed, IntKind.bits]
theorem below_trans' {B : Nat} {a b c : World} (h : Below B a b) (hB : B ≤ b.heap.size) (k : Below b.heap.size b c) : Below B a c := h.trans (k.mono hB)
theorem take_snoc' {α : Type} (l : List α) (k : Nat) (x : α) (h : l[k]? = some x) : l.take (k + 1) = l.take k ++ [x] := by
  rw [List.take_add_one, h]; rfl
theorem cell_blk {w : World} {A : Addr} {v : Value} (h : w.cell? A = some v) : A.block < w.heap.size := World.block_lt_of_cell? w A h
section
variable {P : Program} {ops : Array Oper} {rest : List Oper} {o : Oper} {a : Act} {Q : Exit → Act → World → Prop}
/-- append(v, ys...), ys nil let in. -/
theorem ev_appendR {W : World} (base : Nat) (hgd : o.guard = none) (s x : Operand) (t e : TypeId) (z : Value) (size bytes : Nat)
    (ho : o.op = .call { callee := .builtin .append, args := #[s, x], argTypes := #[t, t] })
    (ht : P.underlying t = some (.slice e)) (hinfo : (P.info? e).map (fun i => (i.zero, i.size, i.bytes)) = some (some z, size, bytes)) (hz : z.cells.size = size) (hs0 : 0 < size) (hb0 : 0 < bytes)
    (v : Value) (n : Nat) (xs : List Value) (A : Option Addr) (m c : Nat) (news : List Value) (hs : a.eval s = v) (hx : a.eval x = .slice A m c) (hlen : news.length = m * size) (hnews : Rd W A news) (h1 : ∀ u ∈ news, u.oneCell' = true)
    (HO : W.ownsRow base e size v n xs) (hbase : base ≤ W.heap.size) (hl : (n + m) * bytes ≤ 140737488355328)
    (h : ∀ A1 c1 w1, w1.ownsRow base e size (.slice A1 (n + m) c1) (n + m) (xs ++ news) → W.grownBy w1 v.ownBlock → ((Value.slice A1 (n + m) c1).ownBlock = v.ownBlock ∨ (Value.slice A1 (n + m) c1).ownBlock = some W.heap.size) → wpList P ops Q rest (a.put o.dst (.slice A1 (n + m) c1)) w1) :
    wpList P ops Q (o :: rest) a W := by
  cases A with
  | some ad =>
    have hn2 : ∀ j u, news[j]? = some u → W.cell? (ad.add j) = some u := by
      intro j u hu
      obtain ⟨ad', he, hc⟩ := hnews (fun e => by subst e; simp at hu)
      injection he with he
      subst he
      exact hc j u hu
    exact ev_appendN base hgd s x t e z size bytes ho ht hinfo hz hs0 hb0 v n xs ad m c news hs hx hlen hn2 h1 HO hbase hl h
  | none =>
    have hnil : news = [] := by
      rcases news with _ | ⟨u, l⟩
      · rfl
      · obtain ⟨ad, he, _⟩ := hnews (by simp)
        cases he
    subst hnil
    obtain rfl : m = 0 := by
      rcases Nat.eq_zero_or_pos m with h0 | h0
      · exact h0
      · have := Nat.mul_pos h0 hs0
        simp at hlen
        omega
    obtain ⟨i0, hi, hz0, hz1, hz2⟩ := info_parts hinfo
    obtain ⟨A1, c1, rfl⟩ : ∃ A c, v = .slice A n c := by
      rcases HO.2 with ⟨rfl, h0⟩ | ⟨g, cap, cur, rfl, _⟩
      · exact ⟨none, 0, by rw [h0]⟩
      · exact ⟨_, cap, rfl⟩
    have hr : (Builtin.append_ #[t, t] o.type #[.slice A1 n c1, .slice none 0 c]).run P W = .ok (.slice A1 n c1) W := by
      rcases HO.2 with ⟨h', hn⟩ | ⟨g, cap, cur, h', _, _, hnc, _⟩
      · injection h' with h1 h2 h3
        subst h1 h2 h3
        simp [Builtin.append_, run_underlying ht, sizeOf, typeInfo, hi, Builtin.lenOf, Builtin.firstCells]
      · injection h' with h1 h2 h3
        subst h1 h3
        simp [Builtin.append_, run_underlying ht, sizeOf, typeInfo, hi, Builtin.lenOf, Builtin.firstCells, hnc, storeCells]
    refine wpList_plain hgd fun K hK => ?_
    unfold Oper.wp execOp
    simp only [ho, resolve, invoke, builtin, Sem.run_bind, Sem.run_pure, Result.andThen_ok, List.map_toArray, List.map_cons, List.map_nil, hs, hx, hr]
    exact hK _ _ (h A1 c1 W (by simpa using HO) (World.grownBy.refl W _) (.inl rfl))
end
theorem add_at (g j : Nat) : (⟨g, 0, none⟩ : Addr).add j = ⟨g, j, none⟩ := by unfold Addr.add; split <;> simp_all
theorem lit_rd (w : World) (vs : List Value) (t : TypeId) : Rd (w.alloc (.cells vs.toArray t)) (some ⟨w.heap.size, 0, none⟩) vs := fun _ => ⟨_, rfl, fun j v hv => by
  rw [add_at, blk_cell (heap_alloc_new w _)]
  simpa using hv⟩
theorem add_block (a : Addr) (j : Nat) : (a.add j).block = a.block := by unfold Addr.add; split <;> rfl
theorem Rd.lt {w : World} {A : Option Addr} {v : Value} {vs : List Value} (h : Rd w A (v :: vs)) : ∀ ad, A = some ad → ad.block < w.heap.size := by
  intro ad hA
  obtain ⟨ad', h1, hc⟩ := h (by simp)
  rw [hA] at h1
  injection h1 with h1
  subst h1
  have := cell_blk (hc 0 v rfl)
  rwa [add_block] at this
theorem Rd.to {w w' : World} {B : Nat} {A : Option Addr} {vs : List Value} (h : Rd w A vs) (hb : Below B w w') (hA : ∀ ad, A = some ad → ad.block < B) : Rd w' A vs := by
  intro hne
  obtain ⟨ad, rfl, hc⟩ := h hne
  exact ⟨ad, rfl, fun j v hv => (hb.cell (by rw [add_block]; exact hA ad rfl)).trans (hc j v hv)⟩
theorem below_alloc' {w w1 : World} (h : Hid (Below w.heap.size w w1)) (o : Obj) : Hid (Below w.heap.size w (w1.alloc o)) := h.out.alloc h.out.size o
theorem below_more {w w1 w2 : World} (h : Hid (Below w.heap.size w w1)) (k : Below w1.heap.size w1 w2) : Hid (Below w.heap.size w w2) := below_trans' h.out h.out.size k
theorem wpAnyH_more {P : Program} {ops : Array Oper} {Q : Exit → Act → World → Prop} {md : Region.Mode} {S S' : World → Prop} (hS : ∀ w, S' w → S w) : ∀ (fuel : Nat) (listed : Array Bool) (a : Act) (w : World), wpAnyH P md ops Q S' fuel listed a w → wpAnyH P md ops Q S fuel listed a w
  | 0, _, _, _, h => h
  | fuel + 1, _, _, _, h => ⟨h.1, fun i hi => wpOp_mono (fun a' w' h' => ⟨hS _ h'.1, wpAnyH_more hS fuel _ a' w' h'.2⟩) (h.2 i hi)⟩
end Go.Proofs.Ytdbhhnphpjdmbaa
