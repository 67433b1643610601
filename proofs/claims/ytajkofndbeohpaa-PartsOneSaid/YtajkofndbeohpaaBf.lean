/-
  Bits: the laws BitsZeros, BitsSigned, BitsOctets.
-/
import Derived.Test.YtajkofndbeohpaaBe
namespace Go.Proofs.Ytajkofndbeohpaa.VG
open Go
set_option linter.unusedSimpArgs false
set_option linter.unusedVariables false

theorem unF_over (a c : List Bool) (k m : Nat) (hk : m < k) : ∀ (f z : Nat), z ≤ m → m - z < f → unF (packB (a ++ (List.replicate k false ++ [true]) ++ c)) a.length m f z = (0, a.length, 2) := by
  have hl := packB_length (a ++ (List.replicate k false ++ [true]) ++ c)
  simp only [List.length_append, List.length_replicate, List.length_singleton] at hl
  intro f
  induction f with
  | zero => intro z _ h; omega
  | succ f ih =>
    intro z hz hf
    have hb : rdb (packB (a ++ (List.replicate k false ++ [true]) ++ c)) (a.length + z) = false := by
      rw [rdb_pack, List.getD_eq_getElem?_getD, List.getElem?_append_left (by simp; omega), List.getElem?_append_right (by omega), Nat.add_sub_cancel_left]
      rw [List.getElem?_append_left (by simp; omega)]
      simp [show z < k by omega]
    by_cases e : z = m
    · subst e
      rw [unF_form (by omega) hb rfl]
    · rw [unF_go (by omega) hb e]
      exact ih (z + 1) (by omega) (by omega)

theorem rUnary_over (a c : List Bool) (k : Nat) (m : Int) (hk : m.toNat < k) : rUnary (packB (a ++ (List.replicate k false ++ [true]) ++ c)) a.length 0 m = (0, a.length, 2) := by
  unfold rUnary
  have hl := packB_length (a ++ (List.replicate k false ++ [true]) ++ c)
  simp only [List.length_append, List.length_replicate, List.length_singleton] at hl
  rw [if_neg (by simp)]
  exact unF_over a c k m.toNat hk _ 0 (by omega) (by omega)

theorem mask_nat (x : Int) (j : Nat) (hj : j < 63) : ∃ N : Nat, N < 2 ^ j ∧ bitw .and .i64 x ((2 ^ j - 1 : Nat) : Int) = N ∧ x % ((2 ^ j : Nat) : Int) = N := by
  have hp0 := Nat.two_pow_pos j
  have h1 := Int.emod_nonneg x (show ((2 ^ j : Nat) : Int) ≠ 0 by omega)
  have h2 := Int.emod_lt_of_pos x (show (0 : Int) < ((2 ^ j : Nat) : Int) by omega)
  exact ⟨(x % ((2 ^ j : Nat) : Int)).toNat, by omega, by rw [and_mask x j hj]; omega, by omega⟩

theorem shr_int (k : IntKind) (x : Int) (y : Nat) (h : y ≤ k.bits) : shr k x y = x / ((2 ^ y : Nat) : Int) := by
  simp only [shr, Int.toNat_natCast, Nat.min_eq_left h]
  rw [Int.fdiv_eq_ediv_of_nonneg _ (by exact_mod_cast Nat.zero_le _)]
  norm_cast
theorem shl_int (k : IntKind) (x : Int) (y : Nat) (h : y ≤ k.bits) : shl k x y = k.wrap (x * ((2 ^ y : Nat) : Int)) := by
  simp only [shl, Int.toNat_natCast, Nat.min_eq_left h]
  norm_cast
theorem wrap_i64_is (x : Int) : ∃ q, IntKind.i64.wrap x = x + 18446744073709551616 * q ∧ -9223372036854775808 ≤ IntKind.i64.wrap x ∧ IntKind.i64.wrap x ≤ 9223372036854775807 := by
  unfold IntKind.wrap IntKind.bits IntKind.signed
  simp only [Bool.true_and, decide_eq_true_eq]
  split
  · exact ⟨-(x / 18446744073709551616) - 1, by omega, by omega, by omega⟩
  · exact ⟨-(x / 18446744073709551616), by omega, by omega, by omega⟩
theorem wrap_u64_is (x : Int) : ∃ q, IntKind.u64.wrap x = x + 18446744073709551616 * q ∧ 0 ≤ IntKind.u64.wrap x ∧ IntKind.u64.wrap x < 18446744073709551616 := by
  unfold IntKind.wrap IntKind.bits IntKind.signed
  simp only [Bool.false_and, Bool.false_eq_true, if_false]
  exact ⟨-(x / 18446744073709551616), by omega, by omega, by omega⟩
theorem wrap_i64_uniq {x y q : Int} (h : x = y + 18446744073709551616 * q) (h0 : -9223372036854775808 ≤ y) (h1 : y ≤ 9223372036854775807) : IntKind.i64.wrap x = y := by
  obtain ⟨q', h2, h3, h4⟩ := wrap_i64_is x
  omega

/-- What is cut to n bits and put is read back as it is. -/
theorem signed_back (x : Int) (N : Nat) (h1 : 1 ≤ N) (h2 : N ≤ 64) (y : Int) (hy : y = shr .i64 (shl .i64 x ((64 - N : Nat) : Int)) ((64 - N : Nat) : Int)) :
    sgnI (lowN (IntKind.u64.wrap y).toNat N) N = y ∧ -9223372036854775808 ≤ y ∧ y ≤ 9223372036854775807 := by
  have hb : 64 - N ≤ IntKind.i64.bits := by simp only [IntKind.bits]; omega
  have hb' : 64 - N ≤ IntKind.u64.bits := by simp only [IntKind.bits]; omega
  rw [shl_int _ _ _ hb, shr_int _ _ _ hb] at hy
  obtain ⟨q, hz, hz0, hz1⟩ := wrap_i64_is (x * ((2 ^ (64 - N) : Nat) : Int))
  have hP : 2 ^ N * 2 ^ (64 - N) = 18446744073709551616 := by rw [← Nat.pow_add, show N + (64 - N) = 64 by omega]
  have hP0 := Nat.two_pow_pos (64 - N)
  have hQ0 := Nat.two_pow_pos N
  have hlow : lowN (IntKind.u64.wrap y).toNat N = (IntKind.u64.wrap y).toNat % 2 ^ N := by
    unfold lowN
    split
    · obtain rfl : N = 64 := by omega
      obtain ⟨q', h3, h4, h5⟩ := wrap_u64_is y
      rw [Nat.mod_eq_of_lt (by omega)]
    · rfl
  obtain ⟨q', hu, hu0, hu1⟩ := wrap_u64_is y
  generalize IntKind.i64.wrap (x * ((2 ^ (64 - N) : Nat) : Int)) = z at *
  generalize hU : IntKind.u64.wrap y = U at *
  generalize hPe : (2 ^ (64 - N) : Nat) = P at *
  generalize hQe : (2 ^ N : Nat) = Q at *
  have hPQ : (Q : Int) * (P : Int) = 18446744073709551616 := by rw [← Int.natCast_mul, hP]; rfl
  have hzP : z = P * (x + Q * q) := by
    rw [hz, Int.mul_add, ← Int.mul_assoc, Int.mul_comm (P : Int) Q, hPQ, Int.mul_comm]
  have hyz : y = x + Q * q := by rw [hy, hzP, Int.mul_ediv_cancel_left _ (by omega)]
  have hzy : z = P * y := by rw [hzP, hyz]
  have hyr : -9223372036854775808 ≤ y ∧ y ≤ 9223372036854775807 := by
    rw [hy]
    constructor
    · rw [Int.le_ediv_iff_mul_le (by omega)]
      have : (-9223372036854775808 : Int) * P ≤ -9223372036854775808 := by
        have : (1 : Int) ≤ P := by omega
        omega
      omega
    · rw [← Int.lt_add_one_iff, Int.ediv_lt_iff_lt_mul (by omega)]
      have : (9223372036854775807 + 1 : Int) * P ≥ 9223372036854775808 := by
        have : (1 : Int) ≤ P := by omega
        omega
      omega
  refine ⟨?_, hyr⟩
  have hLo : ∃ t : Int, ((lowN U.toNat N : Nat) : Int) = y + Q * t := by
    rw [hlow]
    refine ⟨P * q' - (U.toNat / Q : Nat), ?_⟩
    have := Nat.mod_add_div U.toNat Q
    have h3 : ((U.toNat % Q : Nat) : Int) + (Q : Int) * ((U.toNat / Q : Nat) : Int) = U := by
      have : ((U.toNat % Q + Q * (U.toNat / Q) : Nat) : Int) = U.toNat := by rw [this]
      push_cast at this ⊢
      omega
    rw [Int.mul_sub, ← Int.mul_assoc, hPQ]
    omega
  obtain ⟨t, ht⟩ := hLo
  have hw : IntKind.i64.wrap (64 - (N : Int)) = ((64 - N : Nat) : Int) := by rw [wrap_i64 (by omega) (by omega)]; omega
  unfold sgnI
  rw [hw, shl_int _ _ _ hb', shr_int _ _ _ hb, hPe]
  obtain ⟨q3, h3, _, _⟩ := wrap_u64_is (((lowN U.toNat N : Nat) : Int) * (P : Int))
  have h4 : IntKind.i64.wrap (IntKind.u64.wrap (((lowN U.toNat N : Nat) : Int) * (P : Int))) = z := by
    apply wrap_i64_uniq (q := t + q3) _ hz0 hz1
    rw [h3, ht, Int.add_mul, Int.mul_right_comm (Q : Int) t, hPQ, hzy, Int.mul_comm y, Int.mul_add]
    omega
  rw [h4, ← hy]

end Go.Proofs.Ytajkofndbeohpaa.VG
