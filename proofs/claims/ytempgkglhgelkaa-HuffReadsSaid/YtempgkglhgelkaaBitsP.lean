/-
  Plain facts: and, or of numbers; bits of bytes (no program).
-/
import Derived.Test.YtempgkglhgelkaaC
import Derived.WalkSmall
import Derived.IntWalk
import Derived.Laws.Bits64b
namespace Go.Proofs.Ytempgkglhgelkaa
theorem and7_i64 (p : Nat) (hp : p < 4611686018427387904) : bits BinOp.and IntKind.i64 (p : Int) 7 = ((p % 8 : Nat) : Int) := by
  have h1 : (BitVec.ofInt 64 (p : Int)).toNat = p := by
    rw [BitVec.ofInt_natCast, BitVec.toNat_ofNat]; exact Nat.mod_eq_of_lt (by omega)
  have h2 : (BitVec.ofInt 64 (7 : Int)).toNat = 7 := by decide
  show IntKind.i64.wrap ((BitVec.ofInt 64 (p : Int) &&& BitVec.ofInt 64 (7 : Int)).toNat : Int) = _
  rw [BitVec.toNat_and, h1, h2, show (7 : Nat) = 2 ^ 3 - 1 from rfl, Nat.and_two_pow_sub_one_eq_mod]
  exact IntWalk.i64_in _ (by omega)
theorem and1_u8 (p : Nat) (hp : p < 256) : bits BinOp.and IntKind.u8 (p : Int) 1 = ((p % 2 : Nat) : Int) := by
  have h1 : (BitVec.ofInt 8 (p : Int)).toNat = p := by
    rw [BitVec.ofInt_natCast, BitVec.toNat_ofNat]; exact Nat.mod_eq_of_lt (by omega)
  have h2 : (BitVec.ofInt 8 (1 : Int)).toNat = 1 := by decide
  show IntKind.u8.wrap ((BitVec.ofInt 8 (p : Int) &&& BitVec.ofInt 8 (1 : Int)).toNat : Int) = _
  rw [BitVec.toNat_and, h1, h2, Nat.and_one_is_mod]
  exact IntWalk.u8_in _ (by omega)
theorem or_u64_top (x b k : Nat) (hx : x < 2 ^ k) (hb : b ≤ 1) (hk : k < 64) : bits BinOp.or IntKind.u64 (x : Int) ((b * 2 ^ k : Nat) : Int) = ((x + b * 2 ^ k : Nat) : Int) := by
  have hp : (2 : Nat) ^ k ≤ 2 ^ 63 := Nat.pow_le_pow_right (by omega) (by omega)
  have hp2 : (2 : Nat) ^ 63 = 9223372036854775808 := by decide
  have hb2 : b * 2 ^ k ≤ 2 ^ k := by
    have := Nat.mul_le_mul_right (2 ^ k) hb
    omega
  rw [bits_or_u64_nat x (b * 2 ^ k) (by omega) (by omega)]
  have h := Nat.two_pow_add_eq_or_of_lt hx b
  rw [Nat.mul_comm] at h
  rw [Nat.or_comm, ← h, Nat.add_comm]
end Go.Proofs.Ytempgkglhgelkaa
