/-
  Bits: the law BitsSplit.
-/
import Derived.Test.YtajkofndbeohpaaBd
namespace Go.Proofs.Ytajkofndbeohpaa.VG
open Go
set_option linter.unusedSimpArgs false
set_option linter.unusedVariables false

theorem toB_split (x y n k : Nat) (h : k ≤ n) (hy : ∀ i, i < n - k → y.testBit i = x.testBit i) : toB (x / 2 ^ (n - k)) k ++ toB y (n - k) = toB x n := by
  apply List.ext_getElem?
  intro i
  by_cases hi : i < n
  · rw [toB_get x n i hi]
    by_cases hk : i < k
    · rw [List.getElem?_append_left (by rw [toB_length]; exact hk), toB_get _ _ _ hk, Nat.testBit_div_two_pow]
      congr 2; omega
    · rw [List.getElem?_append_right (by rw [toB_length]; omega), toB_length, toB_get _ _ _ (by omega), hy _ (by omega)]
      congr 2; omega
  · rw [List.getElem?_eq_none (by simp [toB_length]; omega), List.getElem?_eq_none (by simp [toB_length]; omega)]

theorem and_mask (x : Int) (j : Nat) (hj : j < 63) : bitw .and .i64 x ((2 ^ j - 1 : Nat) : Int) = x % ((2 ^ j : Nat) : Int) := by
  have hp : 2 ^ j ≤ 2 ^ 62 := Nat.pow_le_pow_right (by omega) (by omega)
  have hp0 := Nat.two_pow_pos j
  have e64 : 2 ^ IntKind.i64.bits = 2 ^ 64 := rfl
  simp only [bitw, ofInt_nat, BitVec.toNat_and, BitVec.toNat_ofNat, BitVec.toNat_ofInt, e64]
  rw [Nat.mod_eq_of_lt (a := 2 ^ j - 1) (by omega), Nat.and_two_pow_sub_one_eq_mod]
  have h1 : ((x % (2 ^ 64 : Nat)).toNat % 2 ^ j : Nat) = (x % ((2 ^ j : Nat) : Int)).toNat := by
    have h2 : x % ((2 ^ j : Nat) : Int) = x % ((2 ^ 64 : Nat) : Int) % ((2 ^ j : Nat) : Int) := by
      rw [Int.emod_emod_of_dvd]
      exact_mod_cast Nat.pow_dvd_pow 2 (by omega)
    rw [h2]
    obtain ⟨Y, hY⟩ : ∃ Y : Nat, x % ((2 ^ 64 : Nat) : Int) = Y := ⟨(x % ((2 ^ 64 : Nat) : Int)).toNat, by omega⟩
    rw [hY, ← Int.natCast_emod, Int.toNat_natCast, Int.toNat_natCast]
  rw [h1]
  have h3 : 0 ≤ x % ((2 ^ j : Nat) : Int) := Int.emod_nonneg _ (by omega)
  have h4 : x % ((2 ^ j : Nat) : Int) < ((2 ^ j : Nat) : Int) := Int.emod_lt_of_pos _ (by omega)
  rw [Int.toNat_of_nonneg h3]
  exact wrap_i64 (by omega) (by omega)

theorem dis_step {w : World} {F F' G : Nat → Prop} (h : ∀ k, F k → ¬ G k) (hF : ∀ k, F' k → F k ∨ w.heap.size ≤ k) (hG : ∀ k, G k → k < w.heap.size) : ∀ k, F' k → ¬ G k :=
  fun k hk hg => (hF k hk).elim (fun h' => h k h' hg) (fun h' => by have := hG k hg; omega)

theorem Own.at {W w w' : World} {F : Nat → Prop} (h : Own W w F) (m : Mod none' W w') : Own W w' F := ⟨h.far, m⟩

end Go.Proofs.Ytajkofndbeohpaa.VG
