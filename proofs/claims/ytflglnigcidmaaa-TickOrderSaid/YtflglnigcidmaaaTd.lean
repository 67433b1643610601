/-
  Tick: rates of any numbers; the known case; all compared.
-/
import Derived.Test.YtflglnigcidmaaaTc
namespace Go.Proofs.Ytflglnigcidmaaa.VG
open Go
set_option linter.unusedSimpArgs false
set_option linter.unusedVariables false

theorem r4 {w : World} {b : Nat} {p q : Int} (hb : ∀ o, w.cell? ⟨b, o, none⟩ = (rV p q).cells[o]?) :
    w.cell? ⟨b, 0, none⟩ = some (.int .i64 p) ∧ w.cell? ⟨b, 1, none⟩ = some (.int .i64 q) ∧ (Value.agg (cellsFrom w ⟨b, 0, none⟩ 0 2).toArray) = rV p q ∧ (∀ j, j < 2 → (w.cell? ⟨b, j, none⟩).isSome = true) = True := by
  obtain ⟨h0, h1, h2⟩ := r_box hb
  exact ⟨h0, h1, h2, eq_true (two_ok hb)⟩

theorem and20 (x : Int) : bitw .and .i64 x 1048575 = x % 1048576 := and_m x 20 (by omega)
theorem and3 (x : Int) : bitw .and .i64 x 7 = x % 8 := and_m x 3 (by omega)
theorem and4 (x : Int) : bitw .and .i64 x 15 = x % 16 := and_m x 4 (by omega)

theorem rate_c {w : World} (a b : Int) : Calls Try.prog 11 [rV a b].toArray w (Ret fun r w' => r = rV (1 + a % 1048576) (1 + b % 1048576) ∧ Mod none' w w') := by
  refine F_sound c11 (by simp [fc11]) ?_
  simp [fc11, s11]
  refine box_h (rV a b) (Hp.nil w) (by simp) ?_
  intro g w1 H M1
  refine ⟨.inl rfl, ?_⟩
  obtain ⟨i2, hi2, hz2⟩ : ∃ i, Try.prog.info? 23 = some i ∧ i.zero = some (rV 0 0) := ⟨_, rfl, rfl⟩
  refine alloc_h H hi2 hz2 ?_
  intro g2 w2 H M2
  refine ⟨.inl rfl, ?_⟩
  obtain ⟨h0, h1, h2, h3⟩ := r4 (H.blk 0 rfl)
  have ha : IntKind.i64.wrap (1 + a % 1048576) = 1 + a % 1048576 := wI (by omega) (by omega)
  have hb : IntKind.i64.wrap (1 + b % 1048576) = 1 + b % 1048576 := wI (by omega) (by omega)
  simp [h0, h1, putAt, Value.cells]
  refine stAll_h 1 H rfl (v := rV (1 + a % 1048576) (1 + b % 1048576)) (by simp) (by simp [rV, putAt, Value.cells, and20, ha, hb]) rfl rfl (by simp [rV, Value.cells]) ?_
  intro w3 H
  refine ⟨.inl rfl, ?_⟩
  obtain ⟨h0, h1, h2, h3⟩ := r4 (H.blk 1 rfl)
  simp [h2, h3, H.mod]
theorem small_c {w : World} (a b : Int) : Calls Try.prog 7 [rV a b].toArray w (Ret fun r w' => r = rV (1 + a % 8) (1 + b % 16) ∧ Mod none' w w') := by
  refine F_sound c7 (by simp [fc7]) ?_
  simp [fc7, s7]
  refine box_h (rV a b) (Hp.nil w) (by simp) ?_
  intro g w1 H M1
  refine ⟨.inl rfl, ?_⟩
  obtain ⟨i2, hi2, hz2⟩ : ∃ i, Try.prog.info? 23 = some i ∧ i.zero = some (rV 0 0) := ⟨_, rfl, rfl⟩
  refine alloc_h H hi2 hz2 ?_
  intro g2 w2 H M2
  refine ⟨.inl rfl, ?_⟩
  obtain ⟨h0, h1, h2, h3⟩ := r4 (H.blk 0 rfl)
  have ha : IntKind.i64.wrap (1 + a % 8) = 1 + a % 8 := wI (by omega) (by omega)
  have hb : IntKind.i64.wrap (1 + b % 16) = 1 + b % 16 := wI (by omega) (by omega)
  simp [h0, h1, putAt, Value.cells]
  refine stAll_h 1 H rfl (v := rV (1 + a % 8) (1 + b % 16)) (by simp) (by simp [rV, putAt, Value.cells, and3, and4, ha, hb]) rfl rfl (by simp [rV, Value.cells]) ?_
  intro w3 H
  refine ⟨.inl rfl, ?_⟩
  obtain ⟨h0, h1, h2, h3⟩ := r4 (H.blk 1 rfl)
  simp [h2, h3, H.mod]

theorem slTR : SlT Try.prog 24 23 2 16 := ⟨by kernel_rfl, ⟨_, _, rfl, rfl, rfl, rfl, rfl⟩, by omega⟩
theorem rV_lit (a b : Int) : Value.agg #[.int .i64 a, .int .i64 b] = rV a b := rfl

set_option maxHeartbeats 1000000 in
theorem tknown_c {w : World} : Calls Try.prog 12 [].toArray w (Ret fun r w' => r = .bool true ∧ Mod none' w w') := by
  refine F_sound c12 (by simp [fc12]) ?_
  simp [fc12, s12, putAt, Value.cells]
  obtain ⟨i2, hi2, hz2⟩ : ∃ i, Try.prog.info? 23 = some i ∧ i.zero = some (rV 0 0) := ⟨_, rfl, rfl⟩
  refine alloc_h (Hp.nil w) hi2 hz2 ?_
  intro g w2 H M2
  refine ⟨.inl rfl, ?_⟩
  refine stAll_h 0 H rfl (v := rV 3 10) (by simp) (by simp [rV, putAt, Value.cells]) rfl rfl (by simp [rV, Value.cells]) ?_
  intro w3 H
  refine ⟨.inl rfl, ?_⟩
  obtain ⟨h0, h1, h2, h3⟩ := r4 (H.blk 0 rfl)
  simp [h2, h3]
  refine callm (at_c 3 10 2) (by simp (disch := omega) [wI, wU, tmod_nn, tdiv_nn, env0_0, env0_1, env0_2, env0_3, env0_4, env0_5, -env0_apply]) ?_
  intro w' M'
  replace H := H.same M'
  rw [show atS 3 10 2 = (6, true) by decide]
  obtain ⟨h0, h1, h2, h3⟩ := r4 (H.blk 0 rfl)
  simp [h2, h3]
  refine callm (count_c 3 10 6) (by simp (disch := omega) [wI, wU, tmod_nn, tdiv_nn, env0_0, env0_1, env0_2, env0_3, env0_4, env0_5, -env0_apply]) ?_
  intro w' M'
  replace H := H.same M'
  rw [show countS 3 10 6 = (3, true) by decide]
  obtain ⟨h0, h1, h2, h3⟩ := r4 (H.blk 0 rfl)
  simp [h2, h3]
  refine callm (count_c 3 10 5) (by simp (disch := omega) [wI, wU, tmod_nn, tdiv_nn, env0_0, env0_1, env0_2, env0_3, env0_4, env0_5, -env0_apply]) ?_
  intro w' M'
  replace H := H.same M'
  rw [show countS 3 10 5 = (2, true) by decide]
  obtain ⟨h0, h1, h2, h3⟩ := r4 (H.blk 0 rfl)
  simp [h2, h3]
  refine callm (within_c 3 10 3 10) (by simp (disch := omega) [wI, wU, tmod_nn, tdiv_nn, env0_0, env0_1, env0_2, env0_3, env0_4, env0_5, -env0_apply]) ?_
  intro w' M'
  replace H := H.same M'
  rw [show withinS 3 10 3 10 = (1, 3, true) by decide]
  simp [putAt, Value.cells]
  refine bs_h slTR [rV 3 10, rV 2 4] H rfl (by decide) (by simp [rV, putAt, Value.cells]) (by simp [rV, Value.cells]) ?_
  intro lv w9 H M9
  refine ⟨.inl rfl, ?_⟩
  have hrd := H.rd 1 rfl
  simp
  refine callm (least_c (l := [(3, 10), (2, 4)]) (by simpa [ratesV, rV, Value.cells] using hrd) (by unfold maxLen; decide)) (by simp (disch := omega) [wI, wU, tmod_nn, tdiv_nn, env0_0, env0_1, env0_2, env0_3, env0_4, env0_5, -env0_apply]) ?_
  intro w' M'
  replace H := H.same M'
  rw [show leastS [(3, 10), (2, 4)] = (10, true) by decide]
  obtain ⟨h0, h1, h2, h3⟩ := r4 (H.blk 0 rfl)
  simp [h2, h3, putAt, Value.cells]
  refine ifg_r (t := true) (by simp) (fun _ => ?_) (fun h => (h rfl).elim)
  refine callm (cmp_c 3 10 3 1 1 10) (by simp [rV, putAt, Value.cells]) ?_
  intro w10 M10
  replace H := H.same M10
  rw [show cmpS 3 10 3 1 1 10 = 0 by decide]
  obtain ⟨h0, h1, h2, h3⟩ := r4 (H.blk 0 rfl)
  simp [h2, h3, putAt, Value.cells]
  refine ifg_r (t := true) (by simp) (fun _ => ?_) (fun h => (h rfl).elim)
  refine callm (cmp_c 3 10 1 1 1 3) (by simp [rV, putAt, Value.cells]) ?_
  intro w11 M11
  replace H := H.same M11
  rw [show cmpS 3 10 1 1 1 3 = 1 by decide]
  simp [H.mod]

set_option maxHeartbeats 1000000 in
theorem tells_c {w : World} (a b a' b' n t : Int) : Calls Try.prog 10 [rV a b, rV a' b', .int .i64 n, .int .i64 t].toArray w (Ret fun r w' => r = .bool true ∧ Mod none' w w') := by
  refine F_sound c10 (by simp [fc10]) ?_
  simp [fc10, s10]
  refine box_h (rV a b) (Hp.nil w) (by simp) ?_
  intro g w1 H M1
  refine ⟨.inl rfl, ?_⟩
  refine box_h (rV a' b') H (by simp) ?_
  intro g2 w2 H M2
  refine ⟨.inl rfl, ?_⟩
  obtain ⟨h0, h1, h2, h3⟩ := r4 (H.blk 0 rfl)
  simp [h2, h3]
  refine callm (at_c a b n) (by simp (disch := omega) [wI, wU, tmod_nn, tdiv_nn, env0_0, env0_1, env0_2, env0_3, env0_4, env0_5, -env0_apply]) ?_
  intro w' M'
  replace H := H.same M'
  obtain ⟨h0, h1, h2, h3⟩ := r4 (H.blk 0 rfl)
  simp [h2, h3]
  refine callm (at2_c a b n) (by simp (disch := omega) [wI, wU, tmod_nn, tdiv_nn, env0_0, env0_1, env0_2, env0_3, env0_4, env0_5, -env0_apply]) ?_
  intro w' M'
  replace H := H.same M'
  obtain ⟨h0, h1, h2, h3⟩ := r4 (H.blk 0 rfl)
  simp [h2, h3]
  refine callm (count_c a b t) (by simp (disch := omega) [wI, wU, tmod_nn, tdiv_nn, env0_0, env0_1, env0_2, env0_3, env0_4, env0_5, -env0_apply]) ?_
  intro w' M'
  replace H := H.same M'
  obtain ⟨h0, h1, h2, h3⟩ := r4 (H.blk 0 rfl)
  simp [h2, h3]
  refine callm (count2_c a b t) (by simp (disch := omega) [wI, wU, tmod_nn, tdiv_nn, env0_0, env0_1, env0_2, env0_3, env0_4, env0_5, -env0_apply]) ?_
  intro w' M'
  replace H := H.same M'
  obtain ⟨h0, h1, h2, h3⟩ := r4 (H.blk 0 rfl)
  simp [h2, h3]
  refine callm (within_c a b n t) (by simp (disch := omega) [wI, wU, tmod_nn, tdiv_nn, env0_0, env0_1, env0_2, env0_3, env0_4, env0_5, -env0_apply]) ?_
  intro w' M'
  replace H := H.same M'
  obtain ⟨h0, h1, h2, h3⟩ := r4 (H.blk 0 rfl)
  simp [h2, h3]
  refine callm (within2_c a b n t) (by simp (disch := omega) [wI, wU, tmod_nn, tdiv_nn, env0_0, env0_1, env0_2, env0_3, env0_4, env0_5, -env0_apply]) ?_
  intro w' M'
  replace H := H.same M'
  obtain ⟨h0, h1, h2, h3⟩ := r4 (H.blk 0 rfl)
  obtain ⟨k0, k1, k2, k3⟩ := r4 (H.blk 1 rfl)
  simp [h2, h3, k2, k3]
  replace H := H.drew
  refine ifg_r (t := true) (by simp) (fun _ => ?_) (fun h => (h rfl).elim)
  refine call_r _ (cmp_c a b n a' b' t) (by simp) ?_
  rintro r w' ⟨rfl, M'⟩
  have H0 := H
  replace H := H.same M'
  refine ⟨by simp [promOk]; exact ⟨same_blk (H0.blk 1 rfl) (H.blk 1 rfl), same_blk (H0.blk 0 rfl) (H.blk 0 rfl)⟩, ?_⟩
  simp
  refine ifg_r (t := true) (by simp) (fun _ => ?_) (fun h => (h rfl).elim)
  refine callm (cmp2_c a b n a' b' t) (by simp (disch := omega) [wI, wU, tmod_nn, tdiv_nn, env0_0, env0_1, env0_2, env0_3, env0_4, env0_5, -env0_apply]) ?_
  intro w' M'
  replace H := H.same M'
  obtain ⟨h0, h1, h2, h3⟩ := r4 (H.blk 0 rfl)
  simp [h2, h3]
  refine ifg_r (t := true) (by simp) (fun _ => ?_) (fun h => (h rfl).elim)
  refine call_r _ (tmay_c a b) (by simp (disch := omega) [wI, wU, tmod_nn, tdiv_nn, env0_0, env0_1, env0_2, env0_3, env0_4, env0_5, -env0_apply]) ?_
  rintro r w' ⟨rfl, M'⟩
  have H0 := H
  replace H := H.same M'
  refine ⟨by simp [promOk]; exact same_blk (H0.blk 0 rfl) (H.blk 0 rfl), ?_⟩
  simp
  refine ifg_r (t := true) (by simp) (fun _ => ?_) (fun h => (h rfl).elim)
  refine callm (tmay2_c a b) (by simp (disch := omega) [wI, wU, tmod_nn, tdiv_nn, env0_0, env0_1, env0_2, env0_3, env0_4, env0_5, -env0_apply]) ?_
  intro w' M'
  replace H := H.same M'
  simp [H.mod]

end Go.Proofs.Ytflglnigcidmaaa.VG
