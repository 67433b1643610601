/-
  VG, part Bw: numbers cut by a mask.
-/
import Derived.Test.YtgjnfajdejkkjaaHq
namespace Go.Proofs.Ytgjnfajdejkkjaa.VG
open Go
set_option linter.unusedSimpArgs false
set_option linter.unusedVariables false
set_option maxRecDepth 20000

theorem and_m (x : Int) (j : Nat) (hj : j < 63) : bitw .and .i64 x ((2 ^ j - 1 : Nat) : Int) = x % ((2 ^ j : Nat) : Int) := by
  have hp : 2 ^ j ≤ 2 ^ 62 := Nat.pow_le_pow_right (by omega) (by omega)
  have hp0 := Nat.two_pow_pos j
  have e64 : 2 ^ IntKind.i64.bits = 2 ^ 64 := rfl
  simp only [bitw, ofInt_nat, BitVec.toNat_and, BitVec.toNat_ofNat, BitVec.toNat_ofInt, e64]
  rw [Nat.mod_eq_of_lt (a := 2 ^ j - 1) (by omega), Nat.and_two_pow_sub_one_eq_mod]
  have h1 : ((x % (2 ^ 64 : Nat)).toNat % 2 ^ j : Nat) = (x % ((2 ^ j : Nat) : Int)).toNat := by
    have h2 : x % ((2 ^ j : Nat) : Int) = x % ((2 ^ 64 : Nat) : Int) % ((2 ^ j : Nat) : Int) := by
      rw [Int.emod_emod_of_dvd]
      exact_mod_cast Nat.pow_dvd_pow 2 (by omega)
    rw [h2]
    obtain ⟨Y, hY⟩ : ∃ Y : Nat, x % ((2 ^ 64 : Nat) : Int) = Y := ⟨(x % ((2 ^ 64 : Nat) : Int)).toNat, by omega⟩
    rw [hY, ← Int.natCast_emod, Int.toNat_natCast, Int.toNat_natCast]
  rw [h1]
  have h3 : 0 ≤ x % ((2 ^ j : Nat) : Int) := Int.emod_nonneg _ (by omega)
  have h4 : x % ((2 ^ j : Nat) : Int) < ((2 ^ j : Nat) : Int) := Int.emod_lt_of_pos _ (by omega)
  rw [Int.toNat_of_nonneg h3]
  exact wrap_i64 (by omega) (by omega)

theorem and_nat (x : Int) (j : Nat) (hj : j < 63) : ∃ N : Nat, bitw .and .i64 x ((2 ^ j - 1 : Nat) : Int) = N ∧ N < 2 ^ j := by
  have h := and_m x j hj
  have h1 := Int.emod_nonneg x (show ((2 ^ j : Nat) : Int) ≠ 0 by have := Nat.two_pow_pos j; omega)
  have h2 := Int.emod_lt_of_pos x (show (0 : Int) < ((2 ^ j : Nat) : Int) by have := Nat.two_pow_pos j; omega)
  exact ⟨(x % ((2 ^ j : Nat) : Int)).toNat, by omega, by omega⟩
theorem and_u (v j : Nat) (hv : v < 18446744073709551616) (hj : j < 64) : bitw .and .u64 (v : Int) ((2 ^ j - 1 : Nat) : Int) = ((v % 2 ^ j : Nat) : Int) := by
  have h2 : 2 ^ j ≤ 2 ^ 63 := Nat.pow_le_pow_right (by omega) (by omega)
  have h3 := Nat.mod_lt v (Nat.two_pow_pos j)
  rw [bitw_and (by simp only [IntKind.bits]; omega) (by simp only [IntKind.bits]; omega), Nat.and_two_pow_sub_one_eq_mod]
  exact wrap_nat_u64 (by omega)

end Go.Proofs.Ytgjnfajdejkkjaa.VG
