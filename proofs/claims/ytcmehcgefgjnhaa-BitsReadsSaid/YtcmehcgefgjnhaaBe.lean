/-
  Bits: the law BitsSplit.
-/
import Derived.Test.YtcmehcgefgjnhaaBd
namespace Go.Proofs.Ytcmehcgefgjnhaa.VG
open Go
set_option linter.unusedSimpArgs false
set_option linter.unusedVariables false

theorem toB_split (x y n k : Nat) (h : k ≤ n) (hy : ∀ i, i < n - k → y.testBit i = x.testBit i) : toB (x / 2 ^ (n - k)) k ++ toB y (n - k) = toB x n := by
  apply List.ext_getElem?
  intro i
  by_cases hi : i < n
  · rw [toB_get x n i hi]
    by_cases hk : i < k
    · rw [List.getElem?_append_left (by rw [toB_length]; exact hk), toB_get _ _ _ hk, Nat.testBit_div_two_pow]
      congr 2; omega
    · rw [List.getElem?_append_right (by rw [toB_length]; omega), toB_length, toB_get _ _ _ (by omega), hy _ (by omega)]
      congr 2; omega
  · rw [List.getElem?_eq_none (by simp [toB_length]; omega), List.getElem?_eq_none (by simp [toB_length]; omega)]

theorem and_mask (x : Int) (j : Nat) (hj : j < 63) : bitw .and .i64 x ((2 ^ j - 1 : Nat) : Int) = x % ((2 ^ j : Nat) : Int) := by
  have hp : 2 ^ j ≤ 2 ^ 62 := Nat.pow_le_pow_right (by omega) (by omega)
  have hp0 := Nat.two_pow_pos j
  have e64 : 2 ^ IntKind.i64.bits = 2 ^ 64 := rfl
  simp only [bitw, ofInt_nat, BitVec.toNat_and, BitVec.toNat_ofNat, BitVec.toNat_ofInt, e64]
  rw [Nat.mod_eq_of_lt (a := 2 ^ j - 1) (by omega), Nat.and_two_pow_sub_one_eq_mod]
  have h1 : ((x % (2 ^ 64 : Nat)).toNat % 2 ^ j : Nat) = (x % ((2 ^ j : Nat) : Int)).toNat := by
    have h2 : x % ((2 ^ j : Nat) : Int) = x % ((2 ^ 64 : Nat) : Int) % ((2 ^ j : Nat) : Int) := by
      rw [Int.emod_emod_of_dvd]
      exact_mod_cast Nat.pow_dvd_pow 2 (by omega)
    rw [h2]
    obtain ⟨Y, hY⟩ : ∃ Y : Nat, x % ((2 ^ 64 : Nat) : Int) = Y := ⟨(x % ((2 ^ 64 : Nat) : Int)).toNat, by omega⟩
    rw [hY, ← Int.natCast_emod, Int.toNat_natCast, Int.toNat_natCast]
  rw [h1]
  have h3 : 0 ≤ x % ((2 ^ j : Nat) : Int) := Int.emod_nonneg _ (by omega)
  have h4 : x % ((2 ^ j : Nat) : Int) < ((2 ^ j : Nat) : Int) := Int.emod_lt_of_pos _ (by omega)
  rw [Int.toNat_of_nonneg h3]
  exact wrap_i64 (by omega) (by omega)

theorem dis_step {w : World} {F F' G : Nat → Prop} (h : ∀ k, F k → ¬ G k) (hF : ∀ k, F' k → F k ∨ w.heap.size ≤ k) (hG : ∀ k, G k → k < w.heap.size) : ∀ k, F' k → ¬ G k :=
  fun k hk hg => (hF k hk).elim (fun h' => h k h' hg) (fun h' => by have := hG k hg; omega)

theorem Own.at {W w w' : World} {F : Nat → Prop} (h : Own W w F) (m : Mod none' W w') : Own W w' F := ⟨h.far, m⟩

set_option maxHeartbeats 1000000 in
theorem split_c {w : World} (v : Nat) (n cut : Int) (hv : v < 18446744073709551616) (hn0 : -9223372036854775808 ≤ n) (hn1 : n ≤ 9223372036854775807) :
    Calls Try.prog 3 [.int .u64 v, .int .i64 n, .int .i64 cut].toArray w (Ret fun r w' => r = .bool true ∧ Mod none' w w') := by
  refine F_sound c3 (by simp [fc3]) ?_
  obtain ⟨N, hN, hNn⟩ : ∃ N : Nat, N ≤ 63 ∧ bitw .and .i64 n 63 = N := ⟨(n % 64).toNat, by omega, by
    have := and_mask n 6 (by omega)
    rw [show ((2 ^ 6 - 1 : Nat) : Int) = 63 from rfl, show ((2 ^ 6 : Nat) : Int) = 64 from rfl] at this
    rw [this]; omega⟩
  obtain ⟨C, hC, hCn⟩ : ∃ N : Nat, N ≤ 63 ∧ bitw .and .i64 cut 63 = N := ⟨(cut % 64).toNat, by omega, by
    have := and_mask cut 6 (by omega)
    rw [show ((2 ^ 6 - 1 : Nat) : Int) = 63 from rfl, show ((2 ^ 6 : Nat) : Int) = 64 from rfl] at this
    rw [this]; omega⟩
  obtain ⟨K, hK, hKn⟩ : ∃ K : Nat, K ≤ N ∧ (C : Int).tmod ((N : Int) + 1) = K := ⟨C % (N + 1), by have := Nat.mod_lt C (show 0 < N + 1 by omega); omega, by rw [tmod_nn (by omega)]; norm_cast⟩
  have hw1 : IntKind.i64.wrap ((N : Int) + 1) = (N : Int) + 1 := wrap_i64 (by omega) (by omega)
  have hw2 : IntKind.i64.wrap ((N : Int) - (K : Int)) = (N : Int) - (K : Int) := wrap_i64 (by omega) (by omega)
  have hw3 : IntKind.u64.wrap ((N : Int) - (K : Int)) = ((N - K : Nat) : Int) := by rw [wrap_u64 (by omega) (by omega)]; omega
  have hw4 : (N : Int) - (K : Int) = ((N - K : Nat) : Int) := by omega
  have hw5 : IntKind.i64.wrap ((N - K : Nat) : Int) = ((N - K : Nat) : Int) := wrap_i64 (by omega) (by omega)
  simp [fc3, s3]
  refine call_r _ known_c (by simp) ?_
  rintro r w0 ⟨rfl, M0⟩
  refine ⟨by simp, ?_⟩
  simp
  refine ite_r (t := false) (by simp) (fun h => by cases h) (fun _ => ?_)
  simp [hNn, hCn, hw1, hKn, hw2, hw3]
  refine ⟨by omega, ?_⟩
  refine box_r (.agg #[.slice none 0 0, .int .i64 0]) (by simp) ?_
  intro a w1 ha ha1 hm1 _
  refine ⟨by simp, ?_⟩
  refine box_r (.agg #[.slice none 0 0, .int .i64 0]) (by simp) ?_
  intro b w2 hb hb1 hm2 _
  have A1 := newWr ha1
  have B2 := newWr hb1
  have A2 := A1.mod hm2 (fun _ _ h => h)
  have OA1 : Own w w1 (fun k => k = a) := .new M0 hm1 (fun k hk => by omega)
  have OA2 := OA1.step hm2 (fun _ h => h.elim) (fun k hk => .inl hk)
  have OB2 : Own w w2 (fun k => k = b) := .new OA1.mod hm2 (fun k hk => by omega)
  have D2 : ∀ k, k = a → ¬ k = b := fun k hk e => by have := heap_lt ha1; omega
  refine ⟨by simp, ?_⟩
  simp [hNn, hCn, hw1, hKn, hw2, hw3]
  refine call_r _ (low_c v N hv (by omega)) (by simp) ?_
  rintro r _ ⟨rfl, rfl⟩
  refine ⟨by simp, ?_⟩
  simp
  have hl := lowN_lt v N hv
  refine call_r _ (put_yes A2 (lowN v N) N (by omega) hl (by simp; omega)) (by simp) ?_
  rintro r w3 ⟨rfl, FA, A3, MA3, hFA⟩
  have OA3 := OA2.step MA3 (fun _ h => h) hFA
  have D3 := dis_step D2 hFA B2.lt
  have B3 := B2.mod MA3 (fun k hk e => D2 k e hk)
  have OB3 := OB2.at OA3.mod
  refine ⟨by simp, ?_⟩
  simp
  refine call_r _ (low_c v N hv (by omega)) (by simp) ?_
  rintro r _ ⟨rfl, rfl⟩
  refine ⟨by simp, ?_⟩
  have hsh : shr .u64 ((lowN v N : Nat) : Int) ((N - K : Nat) : Int) = ((lowN v N / 2 ^ (N - K) : Nat) : Int) := shr_nat _ _ _ (by simp only [IntKind.bits]; omega)
  have hl2 : lowN v N / 2 ^ (N - K) < 2 ^ K := by
    rw [Nat.div_lt_iff_lt_mul (Nat.two_pow_pos _), ← Nat.pow_add, show K + (N - K) = N by omega]
    exact hl
  simp [hw2, hw3, hsh]
  refine call_r _ (put_yes B3 (lowN v N / 2 ^ (N - K)) K (by omega) hl2 (by simp; omega)) (by simp [hw2, hw3, hsh]) ?_
  rintro r w4 ⟨rfl, FB, B4, MB4, hFB⟩
  have OB4 := OB3.step MB4 (fun _ h => h) hFB
  have A4 := A3.mod MB4 D3
  have OA4 := OA3.at OB4.mod
  have D4 := dis_step (fun k hk hk' => D3 k hk' hk) hFB A3.lt
  refine ⟨by simp, ?_⟩
  simp [hw2]
  refine call_r _ (low_c v (N - K) hv (by omega)) (by simp [hw4, hw5]) ?_
  rintro r _ ⟨rfl, rfl⟩
  refine ⟨by simp, ?_⟩
  simp [hw2]
  refine call_r _ (put_yes B4 (lowN v (N - K)) (N - K) (by omega) (lowN_lt v _ hv) (by simp [toB_length]; omega)) (by simp [hw4, hw5]) ?_
  rintro r w5 ⟨rfl, FB2, B5, MB5, hFB2⟩
  have OB5 := OB4.step MB5 (fun _ h => h) hFB2
  have A5 := A4.mod MB5 (fun k hk hk' => D4 k hk' hk)
  have OA5 := OA4.at OB5.mod
  have D5 := dis_step D4 hFB2 A4.lt
  refine ⟨by simp, ?_⟩
  simp
  refine call_r _ (len_c A5) (by simp) ?_
  rintro r _ ⟨rfl, rfl⟩
  refine ⟨by simp, ?_⟩
  have hN' : ([] ++ toB (lowN v N) N).length = N := by simp [toB_length]
  have hNb : ([] ++ toB (lowN v N / 2 ^ (N - K)) K ++ toB (lowN v (N - K)) (N - K)).length = N := by simp [toB_length]; omega
  have heq : [] ++ toB (lowN v N / 2 ^ (N - K)) K ++ toB (lowN v (N - K)) (N - K) = [] ++ toB (lowN v N) N := by
    rw [List.nil_append, List.nil_append]
    refine toB_split _ _ _ _ hK (fun i hi => ?_)
    rw [lowN, lowN, if_neg (by omega), if_neg (by omega), Nat.testBit_mod_two_pow, Nat.testBit_mod_two_pow]
    simp [hi, show i < N by omega]
  rw [hN']
  rw [heq] at B5
  simp
  refine ifg_r (t := true) (by simp) (fun _ => ?_) (fun h => (h rfl).elim)
  refine call_r _ (len_c B5) (by simp) ?_
  rintro r _ ⟨rfl, rfl⟩
  refine ⟨by simp, ?_⟩
  rw [hN']
  simp
  refine ifg_r (t := true) (by simp) (fun _ => ?_) (fun h => (h rfl).elim)
  refine call_r _ (bytes_c A5 (by simp [toB_length]; omega)) (by simp) ?_
  rintro va w6 ha6
  have B6 := B5.mod ha6.2 (fun _ _ h => h)
  refine ⟨by simp, ?_⟩
  simp
  refine ifg_r (t := true) (by simp) (fun _ => ?_) (fun h => (h rfl).elim)
  refine call_r _ (bytes_c B6 (by simp [toB_length]; omega)) (by simp) ?_
  rintro vb w7 hb7
  have ha7 := ha6.rd.mod hb7.2 (fun _ _ h => h)
  refine ⟨by simp, ?_⟩
  simp
  refine ifg_r (t := true) (by simp) (fun _ => ?_) (fun h => (h rfl).elim)
  refine call_r _ (same_c ha7 hb7.rd (packB_fits _) (packB_fits _)) (by simp) ?_
  rintro r _ ⟨rfl, rfl⟩
  refine ⟨by simp, ?_⟩
  simp
  exact (OA5.mod.tr ha6.2).tr hb7.2

end Go.Proofs.Ytcmehcgefgjnhaa.VG
