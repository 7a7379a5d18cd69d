/- Bits of int: or, xor of small numbers. No conditions. -/
import Derived.Test.YtlgefjcfnnjkbaaBase
import Derived.Laws.BitsAllLaws
import Derived.Laws.BitsLemmas
namespace Go.Proofs.Ytlgefjcfnnjkbaa
open Go.RowKit

theorem ofInt_i64 (a : Nat) (h : a < 9223372036854775808) : (BitVec.ofInt 64 (a : Int)).toNat = a := by
  rw [BitVec.toNat_ofInt]; omega

theorem i64_or_nat (a b : Nat) (ha : a < 9223372036854775808) (hb : b < 9223372036854775808) : bits .or .i64 (a : Int) (b : Int) = ((a ||| b : Nat) : Int) := by
  have hx : a ||| b < 2 ^ 63 := Nat.or_lt_two_pow (by omega) (by omega)
  show IntKind.i64.wrap ((BitVec.ofInt 64 (a : Int) ||| BitVec.ofInt 64 (b : Int)).toNat : Int) = _
  rw [BitVec.toNat_or, ofInt_i64 a ha, ofInt_i64 b hb]
  rw [IntKind.wrap_i64]
  omega
theorem i64_xor_nat (a b : Nat) (ha : a < 9223372036854775808) (hb : b < 9223372036854775808) : bits .xor .i64 (a : Int) (b : Int) = ((a ^^^ b : Nat) : Int) := by
  have hx : a ^^^ b < 2 ^ 63 := Nat.xor_lt_two_pow (by omega) (by omega)
  show IntKind.i64.wrap ((BitVec.ofInt 64 (a : Int) ^^^ BitVec.ofInt 64 (b : Int)).toNat : Int) = _
  rw [BitVec.toNat_xor, ofInt_i64 a ha, ofInt_i64 b hb]
  rw [IntKind.wrap_i64]
  omega

theorem or_add (a b k : Nat) (h : b < 2 ^ k) : (a * 2 ^ k) ||| b = a * 2 ^ k + b := by
  rw [← Nat.shiftLeft_eq, Nat.shiftLeft_add_eq_or_of_lt h]

theorem three_bytes (a b c : Nat) (ha : a < 256) (hb : b < 256) (hc : c < 256) : bits .or .i64 (bits .or .i64 ((a : Int) * 65536) ((b : Int) * 256)) (c : Int) = ((a * 65536 + b * 256 + c : Nat) : Int) := by
  have e1 : bits .or .i64 ((a : Int) * 65536) ((b : Int) * 256) = (((a * 256 + b) * 256 : Nat) : Int) := by
    have := i64_or_nat (a * 65536) (b * 256) (by omega) (by omega)
    rw [show ((a * 65536 : Nat) : Int) = (a : Int) * 65536 by omega, show ((b * 256 : Nat) : Int) = (b : Int) * 256 by omega] at this
    rw [this]
    have := or_add a (b * 256) 16 (by omega)
    rw [show a * 2 ^ 16 = a * 65536 by omega] at this
    rw [this]; omega
  rw [e1, i64_or_nat _ _ (by omega) (by omega)]
  have := or_add (a * 256 + b) c 8 (by omega)
  rw [show (a * 256 + b) * 2 ^ 8 = (a * 256 + b) * 256 by omega] at this
  rw [this]; omega
end Go.Proofs.Ytlgefjcfnnjkbaa
