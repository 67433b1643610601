/-
  Tick: things compared.
-/
import Derived.Test.YtflglnigcidmaaaTa
namespace Go.Proofs.Ytflglnigcidmaaa.VG
open Go
set_option linter.unusedSimpArgs false
set_option linter.unusedVariables false

def sgn3 (u v : Int) : Int := if u < v then -1 else if v < u then 1 else 0

theorem mul_parts (x y : Nat) (hx : x < 18446744073709551616) (hy : y < 18446744073709551616) :
    let x0 := x % 4294967296; let x1 := x / 4294967296; let y0 := y % 4294967296; let y1 := y / 4294967296
    x1 * y1 * 18446744073709551616 + (x1 * y0 + x0 * y1) * 4294967296 + x0 * y0 = x * y ∧ x0 * y0 ≤ 18446744065119617025 ∧ x1 * y0 ≤ 18446744065119617025 ∧ x0 * y1 ≤ 18446744065119617025 ∧ x1 * y1 ≤ 18446744065119617025 := by
  intro x0 x1 y0 y1
  have hx' : x = x1 * 4294967296 + x0 := by omega
  have hy' : y = y1 * 4294967296 + y0 := by omega
  have b : ∀ a c : Nat, a ≤ 4294967295 → c ≤ 4294967295 → a * c ≤ 18446744065119617025 := fun a c h1 h2 => Nat.mul_le_mul h1 h2
  refine ⟨?_, b _ _ (by omega) (by omega), b _ _ (by omega) (by omega), b _ _ (by omega) (by omega), b _ _ (by omega) (by omega)⟩
  have e1 : x1 * 4294967296 * (y1 * 4294967296) = x1 * y1 * 18446744073709551616 := by
    rw [Nat.mul_mul_mul_comm]
  have e2 : x1 * 4294967296 * y0 = x1 * y0 * 4294967296 := Nat.mul_right_comm _ _ _
  have e3 : x0 * (y1 * 4294967296) = x0 * y1 * 4294967296 := (Nat.mul_assoc _ _ _).symm
  have e4 : x * y = x1 * 4294967296 * (y1 * 4294967296) + x1 * 4294967296 * y0 + (x0 * (y1 * 4294967296) + x0 * y0) := by
    conv => lhs; rw [hx', hy']
    rw [Nat.add_mul, Nat.mul_add, Nat.mul_add]
  rw [e4, e1, e2, e3]
  omega

theorem and32 (x : Nat) (hx : x < 18446744073709551616) : bitw .and .u64 (x : Int) 4294967295 = ((x % 4294967296 : Nat) : Int) := by
  have := bitw_and (k := .u64) (x := x) (y := 4294967295) (by simpa [IntKind.bits] using hx) (by decide)
  rw [show ((4294967295 : Nat) : Int) = 4294967295 from rfl] at this
  rw [this, show (4294967295 : Nat) = 2 ^ 32 - 1 from rfl, Nat.and_two_pow_sub_one_eq_mod]
  exact wrap_nat_u64 (by omega)
theorem shr32 (x : Nat) : shr .u64 (x : Int) 32 = ((x / 4294967296 : Nat) : Int) := shr_nat .u64 x 32 (by decide)
theorem wM (x : Nat) : IntKind.u64.wrap (x : Int) = ((x % 18446744073709551616 : Nat) : Int) := by
  unfold IntKind.wrap IntKind.bits IntKind.signed
  simp only [Bool.false_and, Bool.false_eq_true, if_false]
  omega

theorem mul64_c {w : World} (x y : Nat) (hx : x < 18446744073709551616) (hy : y < 18446744073709551616) :
    Calls Try.prog 27 [.int .u64 x, .int .u64 y].toArray w (Ret fun r w' => r = .tuple #[.int .u64 ((x * y / 18446744073709551616 : Nat) : Int), .int .u64 ((x * y % 18446744073709551616 : Nat) : Int)] ∧ w' = w) := by
  refine F_sound c27 (by simp [fc27]) ?_
  obtain ⟨h1, h2, h3, h4, h5⟩ := mul_parts x y hx hy
  simp only [fc27, s27]
  have ax := and32 x hx
  have ay := and32 y hy
  generalize hx0 : x % 4294967296 = x0 at *
  generalize hx1 : x / 4294967296 = x1 at *
  generalize hy0 : y % 4294967296 = y0 at *
  generalize hy1 : y / 4294967296 = y1 at *
  have m1 : IntKind.u64.wrap ((x0 : Int) * y0) = ((x0 * y0 : Nat) : Int) := by rw [← Int.natCast_mul]; exact wrap_nat_u64 (by omega)
  have m2 : IntKind.u64.wrap ((x1 : Int) * y0) = ((x1 * y0 : Nat) : Int) := by rw [← Int.natCast_mul]; exact wrap_nat_u64 (by omega)
  have m3 : IntKind.u64.wrap ((x0 : Int) * y1) = ((x0 * y1 : Nat) : Int) := by rw [← Int.natCast_mul]; exact wrap_nat_u64 (by omega)
  have m4 : IntKind.u64.wrap ((x1 : Int) * y1) = ((x1 * y1 : Nat) : Int) := by rw [← Int.natCast_mul]; exact wrap_nat_u64 (by omega)
  have m5 : IntKind.u64.wrap ((x : Int) * y) = ((x * y % 18446744073709551616 : Nat) : Int) := by rw [← Int.natCast_mul]; exact wM _
  have s1 := shr32 x
  have s2 := shr32 y
  rw [hx1] at s1
  rw [hy1] at s2
  generalize x0 * y0 = P00 at *
  generalize x1 * y0 = P10 at *
  generalize x0 * y1 = P01 at *
  generalize x1 * y1 = P11 at *
  generalize x * y = XY at *
  have s3 := shr32 P00
  have a4 : IntKind.u64.wrap ((P10 : Int) + ((P00 / 4294967296 : Nat) : Int)) = ((P10 + P00 / 4294967296 : Nat) : Int) := by rw [wrap_u64 (by omega) (by omega)]; omega
  have s5 := shr32 (P10 + P00 / 4294967296)
  have a5 := and32 (P10 + P00 / 4294967296) (by omega)
  have a6 : IntKind.u64.wrap ((((P10 + P00 / 4294967296) % 4294967296 : Nat) : Int) + (P01 : Int)) = (((P10 + P00 / 4294967296) % 4294967296 + P01 : Nat) : Int) := by rw [wrap_u64 (by omega) (by omega)]; omega
  have s7 := shr32 ((P10 + P00 / 4294967296) % 4294967296 + P01)
  have a8 : IntKind.u64.wrap ((P11 : Int) + (((P10 + P00 / 4294967296) / 4294967296 : Nat) : Int)) = ((P11 + (P10 + P00 / 4294967296) / 4294967296 : Nat) : Int) := by rw [wrap_u64 (by omega) (by omega)]; omega
  have a9 : IntKind.u64.wrap (((P11 + (P10 + P00 / 4294967296) / 4294967296 : Nat) : Int) + ((((P10 + P00 / 4294967296) % 4294967296 + P01) / 4294967296 : Nat) : Int)) = ((XY / 18446744073709551616 : Nat) : Int) := by
    rw [wrap_u64 (by omega) (by omega)]; omega
  simp only [wp_chk, wp_set, wp_ret', postF_ret, oks_cons, oks_nil, evs_cons, evs_nil, E.ev, E.ok, U.val, U.ok, B.val, B.ok, upd_apply, env0_0, env0_1, asI_int, isI_int, isInt_int, arith, ax, ay, s1, s2, m1, m2, m3, m4, m5, s3, a4, s5, a5, a6, s7, a8, a9]
  simp [-Int.natCast_add, -Int.natCast_ediv, -Int.natCast_emod, ax, ay, s1, s2, m1, m2, m3, m4, m5, s3, a4, s5, a5, a6, s7, a8, a9]

theorem nan_c {w : World} (x : Int) : Calls Try.prog 32 [.int .u64 x].toArray w (Ret fun r w' => r = .bool false ∧ w' = w) := by
  refine F_sound c32 (by simp [fc32]) ?_
  simp [fc32, s32]
theorem compare_c {w : World} (x y : Int) : Calls Try.prog 28 [.int .u64 x, .int .u64 y].toArray w (Ret fun r w' => r = .int .i64 (sgn3 x y) ∧ w' = w) := by
  refine F_sound c28 (by simp [fc28]) ?_
  simp [fc28, s28]
  refine callp (nan_c x) (by simp) ?_
  simp
  refine callp (nan_c y) (by simp) ?_
  by_cases h1 : x < y
  · simp (disch := first | omega | (simp [sgn3, h1]; done) | (simp [sgn3, h1]; omega)) [wI, wU, tmod_nn, tdiv_nn, env0_0, env0_1, env0_2, env0_3, env0_4, env0_5, -env0_apply, wp_ite_t, wp_ite_f, wp_ifg_y, wp_ifg_n, sgn3, h1]
  · by_cases h2 : y < x
    · simp (disch := first | omega | (simp [sgn3, h1, h2]; done) | (simp [sgn3, h1, h2]; omega)) [wI, wU, tmod_nn, tdiv_nn, env0_0, env0_1, env0_2, env0_3, env0_4, env0_5, -env0_apply, wp_ite_t, wp_ite_f, wp_ifg_y, wp_ifg_n, sgn3, h1, h2]
    · simp (disch := first | omega | (simp [sgn3, h1, h2]; done) | (simp [sgn3, h1, h2]; omega)) [wI, wU, tmod_nn, tdiv_nn, env0_0, env0_1, env0_2, env0_3, env0_4, env0_5, -env0_apply, wp_ite_t, wp_ite_f, wp_ifg_y, wp_ifg_n, sgn3, h1, h2]
theorem sign_c {w : World} (x y : Int) : Calls Try.prog 31 [.int .i64 x, .int .i64 y].toArray w (Ret fun r w' => r = .int .i64 (sgn3 x y) ∧ w' = w) := by
  refine F_sound c31 (by simp [fc31]) ?_
  simp [fc31, s31, wp_blk]
  by_cases h1 : x < y
  · simp (disch := first | omega | (simp [sgn3, h1]; done) | (simp [sgn3, h1]; omega)) [wI, wU, tmod_nn, tdiv_nn, env0_0, env0_1, env0_2, env0_3, env0_4, env0_5, -env0_apply, wp_ite_t, wp_ite_f, wp_ifg_y, wp_ifg_n, sgn3, h1]
  · by_cases h2 : y < x
    · simp (disch := first | omega | (simp [sgn3, h1, h2]; done) | (simp [sgn3, h1, h2]; omega)) [wI, wU, tmod_nn, tdiv_nn, env0_0, env0_1, env0_2, env0_3, env0_4, env0_5, -env0_apply, wp_ite_t, wp_ite_f, wp_ifg_y, wp_ifg_n, sgn3, h1, h2]
    · simp (disch := first | omega | (simp [sgn3, h1, h2]; done) | (simp [sgn3, h1, h2]; omega)) [wI, wU, tmod_nn, tdiv_nn, env0_0, env0_1, env0_2, env0_3, env0_4, env0_5, -env0_apply, wp_ite_t, wp_ite_f, wp_ifg_y, wp_ifg_n, sgn3, h1, h2]

/-- Two things beside one another. -/
def cmpS (a b n a' b' m : Int) : Int := if mayR a b && mayR a' b' && cnt n && cnt m then sgn3 (n * b * a') (m * b' * a) else 0

theorem lex_sgn (X Y : Nat) : (if X / 18446744073709551616 ≠ Y / 18446744073709551616 then sgn3 ((X / 18446744073709551616 : Nat) : Int) ((Y / 18446744073709551616 : Nat) : Int) else sgn3 ((X % 18446744073709551616 : Nat) : Int) ((Y % 18446744073709551616 : Nat) : Int)) = sgn3 (X : Int) (Y : Int) := by
  unfold sgn3
  split <;> split <;> (try split) <;> (try split) <;> (try split) <;> omega

theorem quo_sgn (x y a b : Int) (hx : 0 ≤ x) (hy : 0 ≤ y) (ha : 0 < a) (hb : 0 < b) : (if x / a ≠ y / b then sgn3 (x / a) (y / b) else sgn3 (x % a * b) (y % b * a)) = sgn3 (x * b) (y * a) := by
  have h1 := Int.mul_ediv_add_emod x a
  have h2 := Int.mul_ediv_add_emod y b
  have h3 := Int.emod_nonneg x (show a ≠ 0 by omega)
  have h4 := Int.emod_nonneg y (show b ≠ 0 by omega)
  have h5 := Int.emod_lt_of_pos x ha
  have h6 := Int.emod_lt_of_pos y hb
  generalize x / a = q at *
  generalize y / b = p at *
  generalize x % a = r at *
  generalize y % b = s at *
  have hab : 0 < a * b := Int.mul_pos ha hb
  have e1 : x * b = (a * b) * q + r * b := by rw [← h1, Int.add_mul, Int.mul_right_comm]
  have e2 : y * a = (a * b) * p + s * a := by rw [← h2, Int.add_mul, Int.mul_right_comm, Int.mul_comm b a]
  have r1 : 0 ≤ r * b := Int.mul_nonneg h3 (by omega)
  have r2 : 0 ≤ s * a := Int.mul_nonneg h4 (by omega)
  have r3 : r * b < a * b := Int.mul_lt_mul_of_pos_right h5 hb
  have r4 : s * a < a * b := by rw [Int.mul_comm a b]; exact Int.mul_lt_mul_of_pos_right h6 ha
  rw [e1, e2]
  generalize r * b = R at *
  generalize s * a = T at *
  by_cases hqp : q = p
  · subst hqp
    rw [if_neg (by simp)]
    unfold sgn3
    split <;> split <;> (try split) <;> (try split) <;> omega
  · rw [if_pos hqp]
    rcases Int.lt_or_gt_of_ne hqp with h | h
    · have : (a * b) * (q + 1) ≤ (a * b) * p := Int.mul_le_mul_of_nonneg_left (by omega) (by omega)
      rw [Int.mul_add] at this
      unfold sgn3
      rw [if_pos h, if_pos (by omega)]
    · have : (a * b) * (p + 1) ≤ (a * b) * q := Int.mul_le_mul_of_nonneg_left (by omega) (by omega)
      rw [Int.mul_add] at this
      unfold sgn3
      rw [if_neg (by omega), if_pos h, if_neg (by omega), if_pos (by omega)]

set_option maxHeartbeats 1000000 in
theorem cmp_c {w : World} (a b n a' b' m : Int) : Calls Try.prog 15 [rV a b, .int .i64 n, rV a' b', .int .i64 m].toArray w (Ret fun r w' => r = .int .i64 (cmpS a b n a' b' m) ∧ Mod none' w w') := by
  refine F_sound c15 (by simp [fc15]) ?_
  simp [fc15, s15]
  refine box_h (rV a b) (Hp.nil w) (by simp) ?_
  intro g w1 H M1
  refine ⟨.inl rfl, ?_⟩
  refine box_h (rV a' b') H (by simp) ?_
  intro g' w2 H M2
  refine ⟨.inl rfl, ?_⟩
  have hok := two_ok (H.blk 0 rfl)
  obtain ⟨h0, h1, h2⟩ := r_box (H.blk 0 rfl)
  simp [h2]
  refine ⟨hok, ?_⟩
  refine callm (tmay_c a b) (by simp) ?_
  intro w3 M3
  replace H := H.same M3
  have hok' := two_ok (H.blk 1 rfl)
  obtain ⟨k0, k1, k2⟩ := r_box (H.blk 1 rfl)
  cases hm : mayR a b
  · simp (disch := first | omega | (simp [cmpS, hm, H.mod]; done) | (simp [cmpS, hm, H.mod]; omega)) [wI, wU, tmod_nn, tdiv_nn, env0_0, env0_1, env0_2, env0_3, env0_4, env0_5, -env0_apply, wp_ite_t, wp_ite_f, wp_ifg_y, wp_ifg_n, cmpS, hm, H.mod]
  simp (disch := first | omega | (simp [k2]; done) | (simp [k2]; omega)) [wI, wU, tmod_nn, tdiv_nn, env0_0, env0_1, env0_2, env0_3, env0_4, env0_5, -env0_apply, wp_ite_t, wp_ite_f, wp_ifg_y, wp_ifg_n, k2]
  refine ⟨hok', ?_⟩
  refine callm (tmay_c a' b') (by simp) ?_
  intro w4 M4
  replace H := H.same M4
  cases hm2 : mayR a' b'
  · simp (disch := first | omega | (simp [cmpS, hm, hm2, H.mod]; done) | (simp [cmpS, hm, hm2, H.mod]; omega)) [wI, wU, tmod_nn, tdiv_nn, env0_0, env0_1, env0_2, env0_3, env0_4, env0_5, -env0_apply, wp_ite_t, wp_ite_f, wp_ifg_y, wp_ifg_n, cmpS, hm, hm2, H.mod]
  simp (disch := first | omega | (simp; done) | (simp; omega)) [wI, wU, tmod_nn, tdiv_nn, env0_0, env0_1, env0_2, env0_3, env0_4, env0_5, -env0_apply, wp_ite_t, wp_ite_f, wp_ifg_y, wp_ifg_n]
  refine callp (cnt_c n) (by simp) ?_
  cases hc : cnt n
  · simp (disch := first | omega | (simp [cmpS, hm, hm2, hc, H.mod]; done) | (simp [cmpS, hm, hm2, hc, H.mod]; omega)) [wI, wU, tmod_nn, tdiv_nn, env0_0, env0_1, env0_2, env0_3, env0_4, env0_5, -env0_apply, wp_ite_t, wp_ite_f, wp_ifg_y, wp_ifg_n, cmpS, hm, hm2, hc, H.mod]
  simp (disch := first | omega | (simp; done) | (simp; omega)) [wI, wU, tmod_nn, tdiv_nn, env0_0, env0_1, env0_2, env0_3, env0_4, env0_5, -env0_apply, wp_ite_t, wp_ite_f, wp_ifg_y, wp_ifg_n]
  refine callp (cnt_c m) (by simp) ?_
  cases hd : cnt m
  · simp (disch := first | omega | (simp [cmpS, hm, hm2, hc, hd, H.mod]; done) | (simp [cmpS, hm, hm2, hc, hd, H.mod]; omega)) [wI, wU, tmod_nn, tdiv_nn, env0_0, env0_1, env0_2, env0_3, env0_4, env0_5, -env0_apply, wp_ite_t, wp_ite_f, wp_ifg_y, wp_ifg_n, cmpS, hm, hm2, hc, hd, H.mod]
  obtain ⟨h0, h1, h2⟩ := r_box (H.blk 0 rfl)
  obtain ⟨k0, k1, k2⟩ := r_box (H.blk 1 rfl)
  have hcS : cmpS a b n a' b' m = sgn3 (n * b * a') (m * b' * a) := by simp [cmpS, hm, hm2, hc, hd]
  rw [hcS]
  rw [mayR_iff] at hm hm2
  rw [cnt_iff] at hc hd
  have b1 := mul_bd0 hc.1 hc.2 (by omega) hm.2.2.2
  have b2 := mul_bd0 hd.1 hd.2 (by omega) hm2.2.2.2
  obtain ⟨X, hX⟩ : ∃ X : Nat, n * b = X := ⟨(n * b).toNat, by omega⟩
  obtain ⟨Y, hY⟩ : ∃ Y : Nat, m * b' = Y := ⟨(m * b').toNat, by omega⟩
  obtain ⟨A, rfl⟩ : ∃ A : Nat, a = A := ⟨a.toNat, by omega⟩
  obtain ⟨A', rfl⟩ : ∃ A' : Nat, a' = A' := ⟨a'.toNat, by omega⟩
  simp (disch := first | omega | (simp [h0, h1, k0, k1, hX]; done) | (simp [h0, h1, k0, k1, hX]; omega)) [wI, wU, tmod_nn, tdiv_nn, env0_0, env0_1, env0_2, env0_3, env0_4, env0_5, -env0_apply, wp_ite_t, wp_ite_f, wp_ifg_y, wp_ifg_n, h0, h1, k0, k1, hX]
  refine callp (mul64_c X A' (by omega) (by omega)) (by simp (disch := first | omega | (simp [h0, h1, k0, k1, hX]; done) | (simp [h0, h1, k0, k1, hX]; omega)) [wI, wU, tmod_nn, tdiv_nn, env0_0, env0_1, env0_2, env0_3, env0_4, env0_5, -env0_apply, wp_ite_t, wp_ite_f, wp_ifg_y, wp_ifg_n, h0, h1, k0, k1, hX]) ?_
  simp (disch := first | omega | (simp [h0, h1, k0, k1, hY]; done) | (simp [h0, h1, k0, k1, hY]; omega)) [wI, wU, tmod_nn, tdiv_nn, env0_0, env0_1, env0_2, env0_3, env0_4, env0_5, -env0_apply, wp_ite_t, wp_ite_f, wp_ifg_y, wp_ifg_n, h0, h1, k0, k1, hY]
  refine callp (mul64_c Y A (by omega) (by omega)) (by simp (disch := first | omega | (simp [h0, h1, k0, k1, hY]; done) | (simp [h0, h1, k0, k1, hY]; omega)) [wI, wU, tmod_nn, tdiv_nn, env0_0, env0_1, env0_2, env0_3, env0_4, env0_5, -env0_apply, wp_ite_t, wp_ite_f, wp_ifg_y, wp_ifg_n, h0, h1, k0, k1, hY]) ?_
  have hlex := lex_sgn (X * A') (Y * A)
  rw [Int.natCast_mul, Int.natCast_mul] at hlex
  simp [-Int.natCast_mul, -Int.natCast_ediv, -Int.natCast_emod]
  by_cases hne : X * A' / 18446744073709551616 ≠ Y * A / 18446744073709551616
  · rw [if_pos hne] at hlex
    refine ite_r (t := true) (by simp [-Int.natCast_mul, -Int.natCast_ediv, -Int.natCast_emod]; omega) (fun _ => ?_) (fun h => by cases h)
    refine callp (compare_c _ _) (by simp; exact ⟨rfl, rfl⟩) ?_
    simp [H.mod]
    simpa using hlex
  · rw [if_neg hne] at hlex
    refine ite_r (t := false) (by simp [-Int.natCast_mul, -Int.natCast_ediv, -Int.natCast_emod]; omega) (fun h => by cases h) (fun _ => ?_)
    refine callp (compare_c _ _) (by simp; exact ⟨rfl, rfl⟩) ?_
    simp [H.mod]
    simpa using hlex

set_option maxHeartbeats 1000000 in
theorem cmp2_c {w : World} (a b n a' b' m : Int) : Calls Try.prog 24 [rV a b, .int .i64 n, rV a' b', .int .i64 m].toArray w (Ret fun r w' => r = .int .i64 (cmpS a b n a' b' m) ∧ Mod none' w w') := by
  refine F_sound c24 (by simp [fc24]) ?_
  simp [fc24, s24]
  refine box_h (rV a b) (Hp.nil w) (by simp) ?_
  intro g w1 H M1
  refine ⟨.inl rfl, ?_⟩
  refine box_h (rV a' b') H (by simp) ?_
  intro g' w2 H M2
  refine ⟨.inl rfl, ?_⟩
  have hok := two_ok (H.blk 0 rfl)
  obtain ⟨h0, h1, h2⟩ := r_box (H.blk 0 rfl)
  simp [h2]
  refine ⟨hok, ?_⟩
  refine callm (tmay2_c a b) (by simp) ?_
  intro w3 M3
  replace H := H.same M3
  have hok' := two_ok (H.blk 1 rfl)
  obtain ⟨k0, k1, k2⟩ := r_box (H.blk 1 rfl)
  cases hm : mayR a b
  · simp (disch := first | omega | (simp [cmpS, hm, H.mod]; done) | (simp [cmpS, hm, H.mod]; omega)) [wI, wU, tmod_nn, tdiv_nn, env0_0, env0_1, env0_2, env0_3, env0_4, env0_5, -env0_apply, wp_ite_t, wp_ite_f, wp_ifg_y, wp_ifg_n, cmpS, hm, H.mod]
  simp (disch := first | omega | (simp [k2]; done) | (simp [k2]; omega)) [wI, wU, tmod_nn, tdiv_nn, env0_0, env0_1, env0_2, env0_3, env0_4, env0_5, -env0_apply, wp_ite_t, wp_ite_f, wp_ifg_y, wp_ifg_n, k2]
  refine ⟨hok', ?_⟩
  refine callm (tmay2_c a' b') (by simp) ?_
  intro w4 M4
  replace H := H.same M4
  cases hm2 : mayR a' b'
  · simp (disch := first | omega | (simp [cmpS, hm, hm2, H.mod]; done) | (simp [cmpS, hm, hm2, H.mod]; omega)) [wI, wU, tmod_nn, tdiv_nn, env0_0, env0_1, env0_2, env0_3, env0_4, env0_5, -env0_apply, wp_ite_t, wp_ite_f, wp_ifg_y, wp_ifg_n, cmpS, hm, hm2, H.mod]
  simp (disch := first | omega | (simp; done) | (simp; omega)) [wI, wU, tmod_nn, tdiv_nn, env0_0, env0_1, env0_2, env0_3, env0_4, env0_5, -env0_apply, wp_ite_t, wp_ite_f, wp_ifg_y, wp_ifg_n]
  refine callp (cnt2_c n) (by simp) ?_
  cases hc : cnt n
  · simp (disch := first | omega | (simp [cmpS, hm, hm2, hc, H.mod]; done) | (simp [cmpS, hm, hm2, hc, H.mod]; omega)) [wI, wU, tmod_nn, tdiv_nn, env0_0, env0_1, env0_2, env0_3, env0_4, env0_5, -env0_apply, wp_ite_t, wp_ite_f, wp_ifg_y, wp_ifg_n, cmpS, hm, hm2, hc, H.mod]
  simp (disch := first | omega | (simp; done) | (simp; omega)) [wI, wU, tmod_nn, tdiv_nn, env0_0, env0_1, env0_2, env0_3, env0_4, env0_5, -env0_apply, wp_ite_t, wp_ite_f, wp_ifg_y, wp_ifg_n]
  refine callp (cnt2_c m) (by simp) ?_
  cases hd : cnt m
  · simp (disch := first | omega | (simp [cmpS, hm, hm2, hc, hd, H.mod]; done) | (simp [cmpS, hm, hm2, hc, hd, H.mod]; omega)) [wI, wU, tmod_nn, tdiv_nn, env0_0, env0_1, env0_2, env0_3, env0_4, env0_5, -env0_apply, wp_ite_t, wp_ite_f, wp_ifg_y, wp_ifg_n, cmpS, hm, hm2, hc, hd, H.mod]
  obtain ⟨h0, h1, h2⟩ := r_box (H.blk 0 rfl)
  obtain ⟨k0, k1, k2⟩ := r_box (H.blk 1 rfl)
  have hcS : cmpS a b n a' b' m = sgn3 (n * b * a') (m * b' * a) := by simp [cmpS, hm, hm2, hc, hd]
  rw [hcS]
  rw [mayR_iff] at hm hm2
  rw [cnt_iff] at hc hd
  have b1 := mul_bd0 hc.1 hc.2 (by omega) hm.2.2.2
  have b2 := mul_bd0 hd.1 hd.2 (by omega) hm2.2.2.2
  have hq := quo_sgn (n * b) (m * b') a a' b1.1 b2.1 (by omega) (by omega)
  have d1 : (n * b).tdiv a = n * b / a := tdiv_nn b1.1
  have d2 : (m * b').tdiv a' = m * b' / a' := tdiv_nn b2.1
  have e1 : (n * b).tmod a = n * b % a := tmod_nn b1.1
  have e2 : (m * b').tmod a' = m * b' % a' := tmod_nn b2.1
  have f1 : 0 ≤ n * b / a ∧ n * b / a ≤ n * b := ⟨Int.ediv_nonneg b1.1 (by omega), Int.ediv_le_self _ b1.1⟩
  have f2 : 0 ≤ m * b' / a' ∧ m * b' / a' ≤ m * b' := ⟨Int.ediv_nonneg b2.1 (by omega), Int.ediv_le_self _ b2.1⟩
  have g1 := Int.emod_nonneg (n * b) (show a ≠ 0 by omega)
  have g2 := Int.emod_nonneg (m * b') (show a' ≠ 0 by omega)
  have g3 := Int.emod_lt_of_pos (n * b) (show 0 < a by omega)
  have g4 := Int.emod_lt_of_pos (m * b') (show 0 < a' by omega)
  have r1 := mul_bd0 g1 (by omega : n * b % a ≤ 1048576) (by omega : 0 ≤ a') hm2.2.1
  have r2 := mul_bd0 g2 (by omega : m * b' % a' ≤ 1048576) (by omega : 0 ≤ a) hm.2.1
  have na : ¬ a = 0 := by omega
  have na' : ¬ a' = 0 := by omega
  have hw : ∀ x y z : Int, IntKind.i64.wrap x = y → IntKind.i64.wrap x = y := fun _ _ _ h => h
  have wn := wI (x := n * b) (by omega) (by omega)
  have wm := wI (x := m * b') (by omega) (by omega)
  have wq := wI (x := n * b / a) (by omega) (by omega)
  have wq' := wI (x := m * b' / a') (by omega) (by omega)
  have wr := wI (x := n * b % a * a') (by omega) (by omega)
  have wr' := wI (x := m * b' % a' * a) (by omega) (by omega)
  simp [wp_ifg_n, wp_ite_f, h0, h1, k0, k1, na, na', wn, wm, d1, d2, wq, wq']
  by_cases hne : n * b / a ≠ m * b' / a'
  · rw [if_pos hne] at hq
    refine ite_r (t := true) (by simp; exact hne) (fun _ => ?_) (fun h => by cases h)
    simp [h0, h1, k0, k1, na, na', d1, d2, wq, wq']
    refine callp (sign_c (n * b / a) (m * b' / a')) (by simp [d1, d2, wq, wq']) ?_
    simp [H.drew.drew.drew.mod]
    exact hq
  · rw [if_neg hne] at hq
    refine ite_r (t := false) (by simp; omega) (fun h => by cases h) (fun _ => ?_)
    simp [h0, h1, k0, k1, na, na', e1, e2]
    refine callp (sign_c (n * b % a * a') (m * b' % a' * a)) (by simp [e1, e2, wr, wr']) ?_
    simp [H.drew.drew.drew.mod]
    exact hq

end Go.Proofs.Ytflglnigcidmaaa.VG
