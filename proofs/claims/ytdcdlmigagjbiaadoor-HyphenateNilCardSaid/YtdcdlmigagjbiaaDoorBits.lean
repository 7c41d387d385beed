/- Bit operations on small numbers as arithmetic. Nothing of the program stands here. -/
import Derived.WalkKit
namespace Go.Proofs.YtdcdlmigagjbiaaDoor
theorem wraps_i64 (n : Int) (h₀ : 0 ≤ n) (h₁ : n < 2 ^ 63) : IntKind.i64.wrap n = n := by rw [IntKind.wrap_i64]; omega
theorem i64_and63 (x : Int) (h₀ : 0 ≤ x) (h₁ : x < 256) : bits .and .i64 x 63 = x % 64 := bits_mask .i64 63 (by decide) wraps_i64 6 (by decide) x h₀ (by omega)
theorem i64_and63u (n : Int) : bits .and .i64 n 63 = n % 64 := by
  have h63 : (BitVec.ofInt 64 63).toNat = 2 ^ 6 - 1 := by decide
  have key : (BitVec.ofInt 64 n &&& BitVec.ofInt 64 63).toNat = (n % ((2 ^ 64 : Nat) : Int)).toNat % 2 ^ 6 := by
    rw [BitVec.toNat_and, BitVec.toNat_ofInt, h63, Nat.and_two_pow_sub_one_eq_mod]
  show IntKind.i64.wrap ((BitVec.ofInt 64 n &&& BitVec.ofInt 64 63).toNat : Nat) = n % 64
  rw [key, IntKind.wrap_i64]
  omega
theorem i64_and31 (x : Int) (h₀ : 0 ≤ x) (h₁ : x < 256) : bits .and .i64 x 31 = x % 32 := bits_mask .i64 63 (by decide) wraps_i64 5 (by decide) x h₀ (by omega)
theorem i64_and15 (x : Int) (h₀ : 0 ≤ x) (h₁ : x < 256) : bits .and .i64 x 15 = x % 16 := bits_mask .i64 63 (by decide) wraps_i64 4 (by decide) x h₀ (by omega)
theorem i64_and7 (x : Int) (h₀ : 0 ≤ x) (h₁ : x < 256) : bits .and .i64 x 7 = x % 8 := bits_mask .i64 63 (by decide) wraps_i64 3 (by decide) x h₀ (by omega)
theorem i64_or6 (x y : Int) (hx₀ : 0 ≤ x) (hx : x % 64 = 0) (hx₁ : x < 1099511627776) (h₀ : 0 ≤ y) (h₁ : y < 64) : bits .or .i64 x y = x + y :=
  bits_join .i64 63 (by decide) wraps_i64 6 x y hx₀ hx (by omega) h₀ h₁ (by omega)
theorem i64_step (p c : Nat) (hp : p < 16777216) (hc : c < 256) : bits .or .i64 ((p : Int) * 64) (bits .and .i64 (c : Int) 63) = ((p * 64 + c % 64 : Nat) : Int) := by
  rw [i64_and63 _ (by omega) (by omega), i64_or6 _ _ (by omega) (by omega) (by omega) (by omega) (by omega)]
  omega
theorem u8_cont (c : UInt8) : (bits .and .u8 (c.toNat : Int) 192 == 128) = decide (128 ≤ c.toNat ∧ c.toNat < 192) := by
  have h : ∀ n : Fin 256, (bits .and .u8 (n.val : Int) 192 == 128) = decide (128 ≤ n.val ∧ n.val < 192) := by decide +kernel
  exact h ⟨c.toNat, UInt8.toNat_lt c⟩
end Go.Proofs.YtdcdlmigagjbiaaDoor
