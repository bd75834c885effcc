/- Whole numbers with a sign, and what wire.Get makes of what it got. -/
import Derived.Test.YtfbpnbomcogkcaaQqWireV
set_option linter.unusedSimpArgs false
set_option linter.unusedVariables false
namespace Go.D
theorem i64_wrap (n : Int) : IntKind.i64.wrap n = if 9223372036854775808 ≤ n % 18446744073709551616 then n % 18446744073709551616 - 18446744073709551616 else n % 18446744073709551616 := by
  simp [IntKind.wrap, IntKind.signed, IntKind.bits]
def unzz (u : Nat) : Int := if u % 2 = 0 then (u / 2 : Nat) else -((u / 2 : Nat) : Int) - 1
theorem unzz_raw {w : Nat} (h : w < 18446744073709551616) : IntKind.i64.wrap
    (((BitVec.ofInt IntKind.i64.bits (IntKind.i64.wrap (((w : Nat) : Int).fdiv (2 ^ min 1 IntKind.u64.bits))) ^^^
      BitVec.ofInt IntKind.i64.bits (IntKind.i64.wrap (0 - IntKind.i64.wrap (IntKind.u64.wrap (((BitVec.ofInt IntKind.u64.bits (w : Int) &&& BitVec.ofInt IntKind.u64.bits 1).toNat : Nat) : Int))))).toNat : Nat) : Int) = unzz w := by
  have hb : IntKind.u64.bits = 64 := rfl
  have hb2 : IntKind.i64.bits = 64 := rfl
  rw [hb, hb2, show (min 1 64 : Nat) = 1 from rfl, show ((2 : Int) ^ 1) = 2 by decide, Int.fdiv_eq_ediv_of_nonneg _ (by decide)]
  have e1 : (BitVec.ofInt 64 (w : Int) &&& BitVec.ofInt 64 1).toNat = w % 2 := by
    rw [BitVec.toNat_and, ofInt_nat _ (by omega) (by omega), Int.toNat_natCast, show (BitVec.ofInt 64 1).toNat = 1 from by decide, Nat.and_one_is_mod]
  have e2 : IntKind.u64.wrap ((w % 2 : Nat) : Int) = ((w % 2 : Nat) : Int) := by rw [u64_wrap]; omega
  rw [e1, e2, wrap64_id (x := ((w % 2 : Nat) : Int)) (by omega) (by omega), wrap64_id (x := 0 - ((w % 2 : Nat) : Int)) (by omega) (by omega), wrap64_id (x := (w : Int) / 2) (by omega) (by omega)]
  unfold unzz
  by_cases h0 : w % 2 = 0
  · rw [if_pos h0, h0, show BitVec.ofInt 64 (0 - ((0 : Nat) : Int)) = 0#64 by decide, BitVec.xor_zero, ofInt_nat _ (by omega) (by omega), wrap64_id (by omega) (by omega)]
    omega
  · have h1 : w % 2 = 1 := by omega
    rw [if_neg h0, h1, show BitVec.ofInt 64 (0 - ((1 : Nat) : Int)) = BitVec.allOnes 64 by decide, BitVec.xor_allOnes, BitVec.toNat_not, ofInt_nat _ (by omega) (by omega), i64_wrap]
    omega
end Go.D
