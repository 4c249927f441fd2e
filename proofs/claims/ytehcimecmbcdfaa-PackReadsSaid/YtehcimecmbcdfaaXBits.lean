/- Plain lemmas on Go's bitwise operators. -/
import Derived.Test.YtehcimecmbcdfaaXLib
import Derived.Laws.BitsLemmas
set_option linter.unusedSimpArgs false
set_option linter.unusedVariables false
namespace Go.Proofs.Ytehcimecmbcdfaa
open Go.RowKit

theorem xor0_i64 (a : Int) (h : -9223372036854775808 ≤ a ∧ a ≤ 9223372036854775807) : bits .xor .i64 a 0 = a := by
  show IntKind.i64.wrap ((BitVec.ofInt 64 a ^^^ BitVec.ofInt 64 0).toNat : Int) = a
  rw [show (BitVec.ofInt 64 0) = 0#64 from rfl, BitVec.xor_zero, BitVec.toNat_ofInt, IntKind.wrap_i64]
  omega
theorem xorm_i64 (a : Int) (h : -9223372036854775808 ≤ a ∧ a ≤ 9223372036854775807) : bits .xor .i64 a (-1) = -a - 1 := by
  show IntKind.i64.wrap ((BitVec.ofInt 64 a ^^^ BitVec.ofInt 64 (-1)).toNat : Int) = -a - 1
  rw [show (BitVec.ofInt 64 (-1)) = BitVec.allOnes 64 from by decide +kernel, BitVec.xor_allOnes, BitVec.toNat_not, BitVec.toNat_ofInt, IntKind.wrap_i64]
  omega
theorem andmask_i64 (x : Int) (n : Nat) (hn : n ≤ 62) : bits .and .i64 x (2 ^ n - 1) = x % 2 ^ n := by
  show IntKind.i64.wrap ((BitVec.ofInt 64 x &&& BitVec.ofInt 64 (2 ^ n - 1)).toNat : Int) = x % 2 ^ n
  have hp : (2:Nat) ^ n ≤ 2 ^ 62 := Nat.pow_le_pow_right (by decide) hn
  have hp0 : 0 < (2:Nat)^n := Nat.pow_pos (by decide)
  have hc : ((2:Int)^n) = (((2:Nat)^n : Nat) : Int) := by norm_cast
  have e1 : (BitVec.ofInt 64 (2 ^ n - 1 : Int)).toNat = 2 ^ n - 1 := by rw [BitVec.toNat_ofInt, hc]; omega
  rw [BitVec.toNat_and, e1, Nat.and_two_pow_sub_one_eq_mod, BitVec.toNat_ofInt, IntKind.wrap_i64, hc]
  have hdvd : (2:Nat)^n ∣ 2^64 := Nat.pow_dvd_pow 2 (by omega)
  have hm : ((x % ((2 ^ 64 : Nat) : Int)).toNat % 2 ^ n : Nat) = (x % ((2:Nat)^n : Nat)).toNat := by
    apply Int.ofNat.inj
    show (((x % ((2 ^ 64 : Nat) : Int)).toNat % 2 ^ n : Nat) : Int) = ((x % ((2:Nat)^n : Nat)).toNat : Int)
    rw [Int.natCast_emod, Int.toNat_of_nonneg (Int.emod_nonneg _ (by decide)), Int.toNat_of_nonneg (Int.emod_nonneg _ (by omega))]
    exact Int.emod_emod_of_dvd x (by exact_mod_cast hdvd)
  have h1 := Int.emod_nonneg x (b := (((2:Nat)^n : Nat) : Int)) (by omega)
  have h2 := Int.emod_lt_of_pos x (b := (((2:Nat)^n : Nat) : Int)) (by omega)
  rw [hm]
  omega
end Go.Proofs.Ytehcimecmbcdfaa
