/- Owned rows of one-cell elements: read, write, pop. No program text. -/
import Derived.Test.YtdbhhnphpjdmbaaSum
import Derived.WalkSmall
import Derived.OpenShut
namespace Go.Proofs.Ytdbhhnphpjdmbaa
open Go.RowKit
set_option maxRecDepth 100000
set_option linter.unusedVariables false
set_option linter.unusedSimpArgs false
theorem own_free {w : World} {base : Nat} {e : TypeId} {size n c g : Nat} {xs : List Value} (h : w.ownsRow base e size (.slice (some ⟨g, 0, none⟩) n c) n xs) (o : Nat) : w.frozen? ⟨g, o, none⟩ = false := by
  rcases h.2 with ⟨h1, _⟩ | ⟨g', cap, cur, h1, hb, hh, r⟩
  · cases h1
  · cases h1
    exact blk_free hh o
theorem own_cell {w : World} {base : Nat} {e : TypeId} {size n c g : Nat} {xs : List Value} (h : w.ownsRow base e size (.slice (some ⟨g, 0, none⟩) n c) n xs) (k : Nat) (u : Value) (hu : xs[k]? = some u) : w.cell? ⟨g, k, none⟩ = some u := by
  have := h.cells (g := g) rfl k u hu
  rwa [add_at] at this
theorem own_set {w : World} {base : Nat} {e : TypeId} {n c g : Nat} {xs : List Value} {size : Nat} (h : w.ownsRow base e size (.slice (some ⟨g, 0, none⟩) n c) n xs) (k : Nat) (hk : k < n * size) (u : Value) : (w.setCell ⟨g, k, none⟩ u).ownsRow base e size (.slice (some ⟨g, 0, none⟩) n c) n (xs.set k u) := by
  obtain ⟨h0, h⟩ := h
  rcases h with ⟨h1, _⟩ | ⟨g', cap, cur, h1, hb, hh, hn, hm, hs, ht⟩
  · cases h1
  · cases h1
    refine ⟨by rw [List.length_set]; exact h0, .inr ⟨g, c, cur.setIfInBounds k u, rfl, hb, blk_set hh k u, hn, hm, by simpa using hs, ?_⟩⟩
    rw [← ht]
    have : (cur.setIfInBounds k u).toList = cur.toList.set k u := by simp
    rw [this, List.take_set]
theorem own_other {w : World} {base : Nat} {e : TypeId} {size n : Nat} {v : Value} {xs : List Value} (h : w.ownsRow base e size v n xs) {p : Addr} (hp : v.ownBlock ≠ some p.block) (u : Value) : (w.setCell p u).ownsRow base e size v n xs :=
  own_move' h (fun k hk => Below.heap_setCell _ _ _ _ (fun e => hp (by rw [hk, e])))
/-- a row that has elements lies in a block -/
theorem own_some {w : World} {base : Nat} {e : TypeId} {size n c : Nat} {A : Option Addr} {xs : List Value} (h : w.ownsRow base e size (.slice A n c) n xs) (hn : 0 < n) : ∃ g, A = some ⟨g, 0, none⟩ ∧ base ≤ g ∧ g < w.heap.size := by
  rcases h.2 with ⟨h1, h0⟩ | ⟨g, cap, cur, h1, hb, hh, r⟩
  · omega
  · cases h1
    exact ⟨g, rfl, hb, blk_lt hh⟩
theorem own_form {w : World} {base : Nat} {e : TypeId} {size n : Nat} {v : Value} {xs : List Value} (h : w.ownsRow base e size v n xs) : ∃ A c, v = .slice A n c := by
  rcases h.2 with ⟨h1, h0⟩ | ⟨g, cap, cur, h1, _⟩
  · exact ⟨none, 0, by rw [h1, h0]⟩
  · exact ⟨_, _, h1⟩
/-- a byte's bits with another one's -/
theorem byte_bits (op : BinOp) (x y : Int) : ∃ b : UInt8, bits op .u8 x y = (b.toNat : Int) := by
  have h := wf_bits op .u8 x y
  simp [Lit.wf, IntKind.min, IntKind.max, IntKind.signed, IntKind.bits] at h
  refine ⟨b8 (bits op .u8 x y), ?_⟩
  rw [b8_toNat]
  omega
theorem bcells_set (bs : List UInt8) (k : Nat) (b : UInt8) : (bcells bs).set k (.int .u8 (b.toNat : Int)) = bcells (bs.set k b) := by
  unfold bcells
  rw [List.map_set]
def icells (l : List Int) : List Value := l.map (Value.int .i64)
theorem icells_length (l : List Int) : (icells l).length = l.length := by simp [icells]
theorem icells_one (l : List Int) : ∀ u ∈ icells l, u.oneCell' = true := by
  intro u hu
  simp only [icells, List.mem_map] at hu
  obtain ⟨x, _, rfl⟩ := hu
  rfl
theorem icells_get (l : List Int) (k : Nat) : (icells l)[k]? = l[k]?.map (Value.int .i64) := by simp [icells]
theorem icells_set (l : List Int) (k : Nat) (v : Int) : (icells l).set k (.int .i64 v) = icells (l.set k v) := by
  unfold icells
  rw [List.map_set]
theorem icells_append (a b : List Int) : icells (a ++ b) = icells a ++ icells b := by simp [icells]
end Go.Proofs.Ytdbhhnphpjdmbaa
