/- And, or, shifts of whole numbers from 0 to below 2^62, in the walk's spelling. -/
import Derived.Test.YthilkphnjffnhaaGreatAln
import Derived.Laws.BitsAllLaws
set_option linter.unusedSimpArgs false
set_option linter.unusedVariables false
namespace Go.Proofs.YthilkphnjffnhaaGreat
open Go.RowKit

theorem ofInt_i64 (a : Nat) (ha : a < 4611686018427387904) : (BitVec.ofInt 64 (a : Int)).toNat = a := by
  rw [BitVec.ofInt_natCast, BitVec.toNat_ofNat]; exact Nat.mod_eq_of_lt (by omega)
theorem and_i64 (a b : Nat) (ha : a < 4611686018427387904) (hb : b < 4611686018427387904) : bits .and .i64 (a : Int) (b : Int) = ((a &&& b : Nat) : Int) := by
  have hx : a &&& b < 2 ^ 62 := Nat.and_lt_two_pow _ (by omega)
  show IntKind.i64.wrap ((BitVec.ofInt 64 (a : Int) &&& BitVec.ofInt 64 (b : Int)).toNat : Int) = _
  rw [BitVec.toNat_and, ofInt_i64 a ha, ofInt_i64 b hb, IntKind.wrap_i64]
  omega
theorem or_i64 (a b : Nat) (ha : a < 4611686018427387904) (hb : b < 4611686018427387904) : bits .or .i64 (a : Int) (b : Int) = ((a ||| b : Nat) : Int) := by
  have hx : a ||| b < 2 ^ 62 := Nat.or_lt_two_pow (by omega) (by omega)
  show IntKind.i64.wrap ((BitVec.ofInt 64 (a : Int) ||| BitVec.ofInt 64 (b : Int)).toNat : Int) = _
  rw [BitVec.toNat_or, ofInt_i64 a ha, ofInt_i64 b hb, IntKind.wrap_i64]
  omega
theorem pow_cast (k : Nat) : (2 : Int) ^ k = ((2 ^ k : Nat) : Int) := by simp
theorem shr_cast (s k : Nat) : (s : Int) / 2 ^ k = ((s / 2 ^ k : Nat) : Int) := by rw [pow_cast]; simp
theorem bit_and_one {s k : Nat} (hs : s < 8192) : bits .and .i64 ((s : Int) / 2 ^ k) 1 = if s.testBit k then 1 else 0 := by
  have h1 : s / 2 ^ k < 4611686018427387904 := Nat.lt_of_le_of_lt (Nat.div_le_self _ _) (by omega)
  rw [shr_cast, show (1 : Int) = ((1 : Nat) : Int) from rfl, and_i64 _ _ h1 (by omega), Nat.and_one_is_mod, Nat.testBit_eq_decide_div_mod_eq]
  split
  · rename_i h; simp at h; omega
  · rename_i h; simp at h; omega
theorem shl_one {k : Nat} (hk : k < 62) : IntKind.i64.wrap (2 ^ k) = ((2 ^ k : Nat) : Int) := by
  have : 2 ^ k < 2 ^ 62 := Nat.pow_lt_pow_right (by omega) hk
  rw [pow_cast, IntKind.wrap_i64]
  generalize 2 ^ k = x at *
  omega
end Go.Proofs.YthilkphnjffnhaaGreat
