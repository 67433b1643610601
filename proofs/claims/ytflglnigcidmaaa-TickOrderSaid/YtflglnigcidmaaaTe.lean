/-
  Tick: the laws TickTells, TickCounts, TickNever.
-/
import Derived.Test.YtflglnigcidmaaaTd
import Derived.Test.YtflglnigcidmaaaSi
namespace Go.Proofs.Ytflglnigcidmaaa.VG
open Go
set_option linter.unusedSimpArgs false
set_option linter.unusedVariables false

theorem and32i (x : Int) : bitw .and .i64 x 4294967295 = x % 4294967296 := and_m x 32 (by omega)

/-- A thing begins at or before a time just if it is counted up to it. -/
theorem reach_iff {A B m u : Int} (hA : 1 ≤ A) (hB : 1 ≤ B) : m * B / A ≤ u ↔ m < reachS A B (u + 1) := by
  unfold reachS
  have h1 : m * B / A ≤ u ↔ m * B < (u + 1) * A := by
    rw [← Int.lt_add_one_iff, Int.ediv_lt_iff_lt_mul (by omega)]
  have h2 : m < ((u + 1) * A + B - 1) / B ↔ (m + 1) * B ≤ (u + 1) * A + B - 1 := by
    rw [← Int.add_one_le_iff, Int.le_ediv_iff_mul_le (by omega)]
  have e : (m + 1) * B = m * B + B := by rw [Int.add_mul, Int.one_mul]
  rw [h1, h2, e]
  omega
theorem at_ok {A B n : Int} (hm : mayR A B = true) (h0 : 0 ≤ n) (h1 : n ≤ 4194304) : atS A B n = (n * B / A, true) ∧ 0 ≤ n * B / A ∧ n * B / A ≤ 4398046511104 := by
  have hm' := mayR_iff.1 hm
  have hc : cnt n = true := cnt_iff.2 (by omega)
  have hb := mul_bd0 h0 h1 (by omega) hm'.2.2.2
  have hd2 : 0 ≤ n * B / A ∧ n * B / A ≤ n * B := ⟨Int.ediv_nonneg hb.1 (by omega), Int.ediv_le_self _ hb.1⟩
  refine ⟨?_, hd2.1, by omega⟩
  rw [atS, if_neg (by rw [hm, hc]; simp), if_neg (by omega)]
theorem count_ok {A B u : Int} (hm : mayR A B = true) (h0 : 0 ≤ u) (h1 : u ≤ 4398046511104) (h2 : u ≤ 1099511627776) : countS A B u = (reachS A B (u + 1), true) := by
  have hc : cnt u = true := cnt_iff.2 (by omega)
  rw [countS, if_neg (by rw [hm, hc]; simp)]
theorem rate_may (a b : Int) : mayR (1 + a % 1048576) (1 + b % 1048576) = true := by rw [mayR_iff]; omega
theorem small_may (a b : Int) : mayR (1 + a % 8) (1 + b % 16) = true := by rw [mayR_iff]; omega

set_option maxHeartbeats 1000000 in
theorem counts_c {w : World} (a b n t : Int) : Calls Try.prog 4 [rV a b, .int .i64 n, .int .i64 t].toArray w (Ret fun r w' => r = .bool true ∧ Mod none' w w') := by
  refine F_sound c4 (by simp [fc4]) ?_
  simp [fc4, s4]
  refine box_h (rV a b) (Hp.nil w) (by simp) ?_
  intro g w1 H M1
  refine ⟨.inl rfl, ?_⟩
  obtain ⟨h0, h1, h2, h3⟩ := r4 (H.blk 0 rfl)
  simp [h2, h3]
  refine callm (rate_c a b) (by simp (disch := omega) [wI, wU, tmod_nn, tdiv_nn, env0_0, env0_1, env0_2, env0_3, env0_4, env0_5, -env0_apply]) ?_
  intro w' M'
  replace H := H.same M'
  have hm := rate_may a b
  have hm' := mayR_iff.1 hm
  generalize 1 + a % 1048576 = A at *
  generalize 1 + b % 1048576 = B at *
  obtain ⟨i2, hi2, hz2⟩ : ∃ i, Try.prog.info? 23 = some i ∧ i.zero = some (rV 0 0) := ⟨_, rfl, rfl⟩
  refine alloc_h H hi2 hz2 ?_
  intro g2 w2 H M2
  refine ⟨.inl rfl, ?_⟩
  refine stAll_h 1 H rfl (v := rV A B) (by simp) (by simp) rfl rfl (by simp [rV, Value.cells]) ?_
  intro w3 H
  refine ⟨.inl rfl, ?_⟩
  have hn : 0 ≤ n % 1048576 ∧ n % 1048576 < 1048576 := by omega
  have ht : 0 ≤ t % 4294967296 ∧ t % 4294967296 < 4294967296 := by omega
  have wn : IntKind.i64.wrap (n % 1048576 + 1) = n % 1048576 + 1 := wI (by omega) (by omega)
  obtain ⟨h0, h1, h2, h3⟩ := r4 (H.blk 1 rfl)
  simp [h2, h3, and20, and32i]
  generalize n % 1048576 = m at *
  generalize t % 4294967296 = u at *
  obtain ⟨a1, a2, a3⟩ := at_ok hm hn.1 (by omega)
  obtain ⟨b1, b2, b3⟩ := at_ok hm (n := m + 1) (by omega) (by omega)
  have ab : m * B / A ≤ (m + 1) * B / A := Int.ediv_le_ediv (by omega) (by rw [Int.add_mul]; omega)
  have hmB := mul_bd0 hn.1 (by omega : m ≤ 1048575) (by omega : 0 ≤ B) hm'.2.2.2
  have a4 : m * B / A ≤ m * B := Int.ediv_le_self _ hmB.1
  refine callm (at_c A B m) (by simp) ?_
  intro w4 M4
  replace H := H.same M4
  rw [a1]
  obtain ⟨h0, h1, h2, h3⟩ := r4 (H.blk 1 rfl)
  simp [h2, h3]
  refine callm (at_c A B (m + 1)) (by simp [wn]) ?_
  intro w5 M5
  replace H := H.same M5
  rw [b1]
  obtain ⟨h0, h1, h2, h3⟩ := r4 (H.blk 1 rfl)
  simp [h2, h3]
  refine callm (count_c A B u) (by simp) ?_
  intro w6 M6
  replace H := H.same M6
  rw [count_ok hm ht.1 (by omega) (by omega)]
  obtain ⟨h0, h1, h2, h3⟩ := r4 (H.blk 1 rfl)
  simp [h2, h3]
  refine callm (count_c A B (m * B / A)) (by simp) ?_
  intro w7 M7
  replace H := H.same M7
  rw [count_ok hm a2 (by omega) (by omega)]
  simp
  refine ite_r (t := false) (by simp; omega) (fun h => by cases h) (fun _ => ?_)
  have r1 := reach_iff (m := m) (u := u) hm'.1 hm'.2.2.1
  have r2 := (reach_iff (m := m) (u := m * B / A) hm'.1 hm'.2.2.1).1 (Int.le_refl _)
  have e1 : (decide (m * B / A ≤ u) == decide (m < reachS A B (u + 1))) = true := by
    rw [beq_iff_eq, decide_eq_decide]; exact r1
  simp
  refine ifg_r (t := true) (by simp [r2]; simpa using e1) (fun _ => ?_) (fun h => (h rfl).elim)
  refine callm (tknown_c) (by simp (disch := omega) [wI, wU, tmod_nn, tdiv_nn, env0_0, env0_1, env0_2, env0_3, env0_4, env0_5, -env0_apply]) ?_
  intro w' M'
  replace H := H.same M'
  simp [H.mod]
  exact ⟨r1, r2⟩

set_option maxHeartbeats 1000000 in
theorem never_c {w : World} (a b n t : Int) : Calls Try.prog 5 [rV a b, .int .i64 n, .int .i64 t].toArray w (Ret fun r w' => r = .bool true ∧ Mod none' w w') := by
  refine F_sound c5 (by simp [fc5]) ?_
  simp [fc5, s5]
  refine box_h (rV a b) (Hp.nil w) (by simp) ?_
  intro g w1 H M1
  refine ⟨.inl rfl, ?_⟩
  obtain ⟨h0, h1, h2, h3⟩ := r4 (H.blk 0 rfl)
  simp [h2, h3]
  refine callm (rate_c a b) (by simp (disch := omega) [wI, wU, tmod_nn, tdiv_nn, env0_0, env0_1, env0_2, env0_3, env0_4, env0_5, -env0_apply]) ?_
  intro w' M'
  replace H := H.same M'
  have hm := rate_may a b
  have hm' := mayR_iff.1 hm
  generalize 1 + a % 1048576 = A at *
  generalize 1 + b % 1048576 = B at *
  obtain ⟨i2, hi2, hz2⟩ : ∃ i, Try.prog.info? 23 = some i ∧ i.zero = some (rV 0 0) := ⟨_, rfl, rfl⟩
  refine alloc_h H hi2 hz2 ?_
  intro g2 w2 H M2
  refine ⟨.inl rfl, ?_⟩
  refine stAll_h 1 H rfl (v := rV A B) (by simp) (by simp) rfl rfl (by simp [rV, Value.cells]) ?_
  intro w3 H
  refine ⟨.inl rfl, ?_⟩
  have hn : 0 ≤ n % 1048576 ∧ n % 1048576 < 1048576 := by omega
  have ht : 0 ≤ t % 1048576 ∧ t % 1048576 < 1048576 := by omega
  have wn : IntKind.i64.wrap (n % 1048576 + t % 1048576) = n % 1048576 + t % 1048576 := wI (by omega) (by omega)
  have wn2 : IntKind.i64.wrap (n % 1048576 + A) = n % 1048576 + A := wI (by omega) (by omega)
  obtain ⟨h0, h1, h2, h3⟩ := r4 (H.blk 1 rfl)
  simp [h2, h3, and20]
  generalize n % 1048576 = m at *
  generalize t % 1048576 = u at *
  obtain ⟨a1, a2, a3⟩ := at_ok hm hn.1 (by omega)
  obtain ⟨b1, b2, b3⟩ := at_ok hm ht.1 (by omega)
  obtain ⟨c1, c2, c3⟩ := at_ok hm (n := m + u) (by omega) (by omega)
  obtain ⟨d1, d2, d3⟩ := at_ok hm (n := m + A) (by omega) (by omega)
  have q1 : (m + A) * B / A = m * B / A + B := by
    rw [Int.add_mul, Int.mul_comm A B, Int.add_mul_ediv_right _ _ (by omega)]
  have q2 : m * B / A + u * B / A ≤ (m + u) * B / A ∧ (m + u) * B / A ≤ m * B / A + u * B / A + 1 := by
    have e1 := Int.mul_ediv_add_emod (m * B) A
    have e2 := Int.mul_ediv_add_emod (u * B) A
    have e3 := Int.emod_nonneg (m * B) (show A ≠ 0 by omega)
    have e4 := Int.emod_nonneg (u * B) (show A ≠ 0 by omega)
    have e5 := Int.emod_lt_of_pos (m * B) (show 0 < A by omega)
    have e6 := Int.emod_lt_of_pos (u * B) (show 0 < A by omega)
    have e7 : (m + u) * B = (m * B % A + u * B % A) + A * (m * B / A + u * B / A) := by rw [Int.add_mul, Int.mul_add]; omega
    rw [e7, Int.add_mul_ediv_left _ _ (by omega)]
    have e8 : 0 ≤ (m * B % A + u * B % A) / A := Int.ediv_nonneg (by omega) (by omega)
    have e9 : (m * B % A + u * B % A) / A < 2 := (Int.ediv_lt_iff_lt_mul (by omega)).2 (by omega)
    omega
  refine callm (at_c A B m) (by simp) ?_
  intro w4 M4
  replace H := H.same M4
  rw [a1]
  obtain ⟨h0, h1, h2, h3⟩ := r4 (H.blk 1 rfl)
  simp [h2, h3]
  refine callm (at_c A B u) (by simp) ?_
  intro w5 M5
  replace H := H.same M5
  rw [b1]
  obtain ⟨h0, h1, h2, h3⟩ := r4 (H.blk 1 rfl)
  simp [h2, h3]
  refine callm (at_c A B (m + u)) (by simp [wn]) ?_
  intro w6 M6
  replace H := H.same M6
  rw [c1]
  obtain ⟨h0, h1, h2, h3⟩ := r4 (H.blk 1 rfl)
  simp [h0, h1, h2, h3]
  refine callm (at_c A B (m + A)) (by simp [wn2]) ?_
  intro w7 M7
  replace H := H.same M7
  rw [d1, q1]
  obtain ⟨h0, h1, h2, h3⟩ := r4 (H.blk 1 rfl)
  generalize m * B / A = p at *
  generalize u * B / A = q at *
  generalize (m + u) * B / A = s at *
  have w8 : IntKind.i64.wrap (p + q) = p + q := wI (by omega) (by omega)
  have w9 : IntKind.i64.wrap (p + q + 1) = p + q + 1 := wI (by omega) (by omega)
  have w10 : IntKind.i64.wrap (p + B) = p + B := wI (by omega) (by omega)
  simp [h0, h1, w8, w9, w10, q2]
  refine ifg_r (t := true) (by simp) (fun _ => ?_) (fun h => (h rfl).elim)
  refine callm (tknown_c) (by simp (disch := omega) [wI, wU, tmod_nn, tdiv_nn, env0_0, env0_1, env0_2, env0_3, env0_4, env0_5, -env0_apply]) ?_
  intro w' M'
  replace H := H.same M'
  simp [H.mod]

end Go.Proofs.Ytflglnigcidmaaa.VG
