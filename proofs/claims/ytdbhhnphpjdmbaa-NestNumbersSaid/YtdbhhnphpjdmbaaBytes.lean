/- Plain words on bytes and sums: a sum step by step, a number as four bytes and back. No program text. -/
import Derived.Test.YtdbhhnphpjdmbaaBase
import Derived.Lib.EndianBits
namespace Go.Proofs.Ytdbhhnphpjdmbaa
open Go.RowKit
set_option maxRecDepth 100000
/-- bytes as values -/
def bcells (bs : List UInt8) : List Value := bs.map fun b => .int .u8 (b.toNat : Int)
theorem bcells_length (bs : List UInt8) : (bcells bs).length = bs.length := by simp [bcells]
theorem bcells_append (a b : List UInt8) : bcells (a ++ b) = bcells a ++ bcells b := by simp [bcells]
theorem bcells_get (bs : List UInt8) (j : Nat) : (bcells bs)[j]? = bs[j]?.map fun b => .int .u8 (b.toNat : Int) := by simp [bcells]
theorem bcells_one (bs : List UInt8) : ∀ u ∈ bcells bs, u.oneCell' = true := by
  intro u hu
  simp only [bcells, List.mem_map] at hu
  obtain ⟨x, _, rfl⟩ := hu
  rfl
theorem bcells_drop (bs : List UInt8) (n : Nat) : (bcells bs).drop n = bcells (bs.drop n) := by simp [bcells]
theorem bcells_take (bs : List UInt8) (n : Nat) : (bcells bs).take n = bcells (bs.take n) := by simp [bcells]
theorem bcells_inj {a b : List UInt8} (h : bcells a = bcells b) : a = b := by
  induction a generalizing b with
  | nil => cases b with
    | nil => rfl
    | cons y b => simp [bcells] at h
  | cons x a ih => cases b with
    | nil => simp [bcells] at h
    | cons y b =>
      have h2 : Value.int .u8 (x.toNat : Int) :: bcells a = Value.int .u8 (y.toNat : Int) :: bcells b := h
      injection h2 with h3 h4
      injection h3 with _ h5
      have : x = y := UInt8.toNat_inj.1 (by omega)
      rw [this, ih h4]
theorem byte_lt (b : UInt8) : (b.toNat : Int) < 256 := by have := b.toNat_lt; omega
/-- a number's low byte -/
def b8 (n : Int) : UInt8 := UInt8.ofNat (n % 256).toNat
theorem b8_toNat (n : Int) : ((b8 n).toNat : Int) = n % 256 := by
  have h : (n % 256).toNat < 256 := by omega
  simp only [b8, UInt8.toNat_ofNat']
  omega
theorem b8_of (n : Int) (b : UInt8) (h : n % 256 = b.toNat) : b8 n = b := by
  apply UInt8.toNat_inj.1
  have := b8_toNat n
  omega
/-- one byte more in a sum -/
def fnvStep (h : Int) (b : UInt8) : Int := bits BinOp.xor IntKind.u32 h (b.toNat : Int) * 16777619 % 4294967296
def fnv (bs : List UInt8) : Int := bs.foldl fnvStep 2166136261
theorem fnvStep_range (h : Int) (b : UInt8) : 0 ≤ fnvStep h b ∧ fnvStep h b < 4294967296 := by unfold fnvStep; omega
theorem fnv_snoc (bs : List UInt8) (b : UInt8) : fnv (bs ++ [b]) = fnvStep (fnv bs) b := by simp [fnv]
theorem fnv_range (bs : List UInt8) : 0 ≤ fnv bs ∧ fnv bs < 4294967296 := by
  rcases List.eq_nil_or_concat bs with rfl | ⟨l, b, rfl⟩
  · decide
  · rw [List.concat_eq_append, fnv_snoc]; exact fnvStep_range _ _
/-- a number as four bytes -/
def put4 (n : Int) : List UInt8 := [b8 (n / 16777216), b8 (n / 65536), b8 (n / 256), b8 n]
/-- .. and back: bytes as one number -/
def beNum (bs : List UInt8) : Int := bs.foldl (fun n b => n * 256 + b.toNat) 0
def get4 (bs : List UInt8) (at_ : Int) : Int := if at_ < 0 ∨ at_ > (bs.length : Int) - 4 then 0 else beNum ((bs.drop at_.toNat).take 4)
theorem beNum_snoc (bs : List UInt8) (b : UInt8) : beNum (bs ++ [b]) = beNum bs * 256 + b.toNat := by simp [beNum]
theorem beNum_range (l : List UInt8) (hl : l.length ≤ 4) : 0 ≤ beNum l ∧ beNum l < 4294967296 := by
  match l, hl with
  | [], _ => decide
  | [a], _ => have := byte_lt a; simp only [beNum, List.foldl_cons, List.foldl_nil]; omega
  | [a, b], _ => have := byte_lt a; have := byte_lt b; simp only [beNum, List.foldl_cons, List.foldl_nil]; omega
  | [a, b, c], _ => have := byte_lt a; have := byte_lt b; have := byte_lt c; simp only [beNum, List.foldl_cons, List.foldl_nil]; omega
  | [a, b, c, d], _ => have := byte_lt a; have := byte_lt b; have := byte_lt c; have := byte_lt d; simp only [beNum, List.foldl_cons, List.foldl_nil]; omega
  | _ :: _ :: _ :: _ :: _ :: _, h => simp at h
theorem beNum_small (l : List UInt8) (hl : l.length ≤ 3) : 0 ≤ beNum l ∧ beNum l < 16777216 := by
  match l, hl with
  | [], _ => decide
  | [a], _ => have := byte_lt a; simp only [beNum, List.foldl_cons, List.foldl_nil]; omega
  | [a, b], _ => have := byte_lt a; have := byte_lt b; simp only [beNum, List.foldl_cons, List.foldl_nil]; omega
  | [a, b, c], _ => have := byte_lt a; have := byte_lt b; have := byte_lt c; simp only [beNum, List.foldl_cons, List.foldl_nil]; omega
  | _ :: _ :: _ :: _ :: _, h => simp at h
theorem get4_range (bs : List UInt8) (at_ : Int) : 0 ≤ get4 bs at_ ∧ get4 bs at_ < 4294967296 := by
  unfold get4
  split
  · omega
  · exact beNum_range _ (List.length_take_le _ _)
theorem put4_get (n : Int) (h0 : 0 ≤ n) (h1 : n < 4294967296) : beNum (put4 n) = n := by
  simp only [beNum, put4, List.foldl_cons, List.foldl_nil, b8_toNat]
  omega
theorem be_or (x : Int) (h0 : 0 ≤ x) (h1 : x < 16777216) (b : UInt8) : bits BinOp.or IntKind.u32 (x * 256) (b.toNat : Int) = x * 256 + b.toNat :=
  bits_join .u32 32 (by decide) wraps_u32 8 (x * 256) b.toNat (by omega) (by omega) (by omega) (by omega) (byte_lt b) (by have := byte_lt b; omega)
end Go.Proofs.Ytdbhhnphpjdmbaa
