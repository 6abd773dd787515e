/- Bits of whole numbers: sums of bytes. -/
import Derived.Test.YtnehppeoffemlaaMem
import Derived.Laws.BitsAllLaws
namespace Go.Proofs.Ytnehppeoffemlaa
set_option linter.unusedVariables false
set_option linter.unusedSimpArgs false
open Go.RowKit
theorem i64_or_nat (a b : Nat) (ha : a < 4611686018427387904) (hb : b < 4611686018427387904) : bits .or .i64 (a : Int) (b : Int) = ((a ||| b : Nat) : Int) := by
  have hx : a ||| b < 2 ^ 62 := Nat.or_lt_two_pow (by omega) (by omega)
  have h1 : (BitVec.ofInt 64 (a : Int)).toNat = a := by
    rw [BitVec.ofInt_natCast, BitVec.toNat_ofNat]; exact Nat.mod_eq_of_lt (by omega)
  have h2 : (BitVec.ofInt 64 (b : Int)).toNat = b := by
    rw [BitVec.ofInt_natCast, BitVec.toNat_ofNat]; exact Nat.mod_eq_of_lt (by omega)
  show IntKind.i64.wrap ((BitVec.ofInt 64 (a : Int) ||| BitVec.ofInt 64 (b : Int)).toNat : Int) = _
  rw [BitVec.toNat_or, h1, h2, IntKind.wrap_i64]
  omega
theorem or_mul (a b i m : Nat) (hm : m = 2 ^ i) (h : a < m) : b * m ||| a = b * m + a := by
  subst hm
  rw [← Nat.shiftLeft_eq, Nat.shiftLeft_add_eq_or_of_lt h]
theorem or_i64 (a b : Int) (i m : Nat) (hm : m = 2 ^ i) (h0 : 0 ≤ a) (h1 : a < m) (b0 : 0 ≤ b) (hb : b * m < 4611686018427387904) (hm9 : m < 4611686018427387904) : bits .or .i64 (b * m) a = b * m + a := by
  obtain ⟨a, rfl⟩ := Int.eq_ofNat_of_zero_le h0
  obtain ⟨b, rfl⟩ := Int.eq_ofNat_of_zero_le b0
  have e : ((b : Int) * (m : Int)) = ((b * m : Nat) : Int) := by simp
  have hbm : b * m < 4611686018427387904 := by omega
  rw [e, i64_or_nat (b * m) a hbm (by omega), or_mul a b i m hm (by omega)]; omega
/-- Three bytes of a number. -/
theorem be24 {a b c : Int} (a0 : 0 ≤ a) (a1 : a ≤ 255) (b0 : 0 ≤ b) (b1 : b ≤ 255) (c0 : 0 ≤ c) (c1 : c ≤ 255) : bits .or .i64 (bits .or .i64 (a * 65536) (b * 256)) c = a * 65536 + b * 256 + c := by
  have h1 := or_i64 (b * 256) a 16 65536 (by decide) (by omega) (by omega) a0 (by omega) (by omega)
  have h2 := or_i64 c (a * 256 + b) 8 256 (by decide) c0 (by omega) (by omega) (by omega) (by omega)
  rw [show a * 65536 = a * ((65536 : Nat) : Int) from rfl, h1]
  rw [show (a * 256 + b) * ((256 : Nat) : Int) = a * ((65536 : Nat) : Int) + b * 256 by omega] at h2
  exact h2
/-- Two bytes of a number. -/
theorem be16 {a b : Int} (a0 : 0 ≤ a) (a1 : a ≤ 255) (b0 : 0 ≤ b) (b1 : b ≤ 255) : bits .or .i64 (a * 256) b = a * 256 + b := by
  have h1 := or_i64 b a 8 256 (by decide) b0 (by omega) a0 (by omega) (by omega)
  exact h1
end Go.Proofs.Ytnehppeoffemlaa
