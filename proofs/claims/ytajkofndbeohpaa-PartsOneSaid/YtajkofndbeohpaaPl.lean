/-
  Parts: a known plan.
-/
import Derived.Test.YtajkofndbeohpaaPk
namespace Go.Proofs.Ytajkofndbeohpaa.VG
open Go
set_option linter.unusedSimpArgs false
set_option linter.unusedVariables false

set_option maxRecDepth 10000 in
theorem kB : mayB 1 [0, 31] 4 1 = true ∧ rightB 4 1 [0, 1, -2] = true := by decide
def kBits : List Bool := [false, false, false, true, false, false, false, false, false, true, true, true, true, true, true, false, false, false, true, false, false, true, true, false]
set_option maxRecDepth 10000 in
theorem kP : putB 1 [0, 31] 4 1 [0, 1, -2] = kBits := by decide
set_option maxRecDepth 10000 in
theorem kC : costP 1 [0, 31] 4 1 [0, 1, -2] = 24 := by decide

set_option maxRecDepth 10000 in
theorem kG : getP (packB kBits) 0 0 4 1 = ((1, [0, 31], [0, 1, -2], 0), 24, 0) := by decide

set_option maxHeartbeats 4000000 in
theorem pknown_c {w : World} : Calls Try.prog 12 [].toArray w (Ret fun r w' => r = .bool true ∧ Mod none' w w') := by
  refine F_sound c12 (by simp [fc12]) ?_
  simp [fc12, s12]
  obtain ⟨i2, hi2, hz2⟩ : ∃ i, Try.prog.info? 24 = some i ∧ i.zero = some (planV 0 (.slice none 0 0)) := ⟨_, rfl, rfl⟩
  have hpn : (planV 0 (.slice none 0 0)).cells = #[.int .i64 0, .slice none 0 0] := plan_cells 0 _ rfl
  refine bs_h slTI (([0, 31] : List Int).map fun n => .int .i64 n) (Hp.nil w) rfl (by decide) (by simp) (by simp [Value.cells]) ?_
  intro kv w1 H M1
  rw [flat_ints] at H
  refine ⟨.inl rfl, ?_⟩
  have hkc : kv.cells = #[kv] := by obtain ⟨cap, hv⟩ := (H.rd 0 rfl).is; rw [hv]; rfl
  simp [hkc]
  refine ⟨⟨by simp [putAt, Value.cells], rfl⟩, ?_⟩
  refine alloc_h H hi2 hz2 ?_
  intro t w2 H M2
  rw [hpn] at H
  refine ⟨.inl rfl, ?_⟩
  simp
  refine stAll_h 1 H rfl (v := planV 1 kv) (by simp) (by simp [planV, putAt, show (Value.int .i64 1).cells = #[.int .i64 1] from rfl, hkc]) (by rw [plan_cells _ _ hkc]; rfl) rfl (by rw [plan_cells _ _ hkc]; simp; exact own_one (H.own 0 rfl)) ?_
  intro w3 H
  rw [plan_cells _ _ hkc] at H
  refine ⟨.inl rfl, ?_⟩
  refine bs_h slTI (([0, 1, -2] : List Int).map fun n => .int .i64 n) H rfl (by decide) (by simp) (by simp [Value.cells]) ?_
  intro lv w4 H M4
  rw [flat_ints] at H
  refine ⟨.inl rfl, ?_⟩
  simp
  refine wrbox_h H (by simp) ?_
  intro b w5 H M5
  refine ⟨.inl rfl, ?_⟩
  obtain ⟨hc, hj, _, _⟩ := blk2 (H.blk 1 rfl)
  simp [hc]
  refine ⟨hj, ?_⟩
  obtain ⟨F, G, hW, r1, r2, hd, hG, up⟩ := H.wrRows 3 rfl 0 2 rfl rfl (by decide) (by decide)
  refine call_h (pput_yes (ks := [0, 31]) (l := [0, 1, -2]) 1 4 1 hW r1 (by decide) r2 (by decide) hd hG (by decide) kB) (by simp [planV]) ?_
  rintro r w6 ⟨rfl, A⟩
  rw [kP, List.nil_append] at A
  replace H := up _ _ A
  simp
  have hkl : kBits.length = 24 := rfl
  obtain ⟨F, hW, _⟩ := H.wr 3 rfl
  refine call_h (bytes_c hW (by rw [hkl]; decide)) (by simp) ?_
  intro vb w7 A
  replace H := H.newBytes A
  simp
  refine call_h (new_c (H.rd 4 rfl) (packB_fits _) (by rw [packB_length, hkl]; decide)) (by simp) ?_
  rintro r w8 ⟨c, G, rfl, hR, M8, hG⟩
  replace H := H.newRr hR M8 hG
  simp
  refine ite_r (t := false) (by simp) (fun h => by cases h) (fun _ => ?_)
  obtain ⟨F, hR, _, up⟩ := H.rrF 5 rfl
  refine call_h (pget_c hR 4 1) (by simp) ?_
  rw [kG]
  rintro r w9 ⟨qv, mv, rfl, q1, q2⟩
  replace H := up _ _ _ _ q1 q2
  simp only at H
  have hqc : qv.cells = #[qv] := by obtain ⟨cap, hv⟩ := (H.rd 6 rfl).is; rw [hv]; rfl
  simp
  refine alloc_h H hi2 hz2 ?_
  intro t2 w10 H M10
  rw [hpn] at H
  refine ⟨.inl rfl, ?_⟩
  refine stAll_h 8 H rfl (v := planV 1 qv) (by simp) (by simp) (by rw [plan_cells _ _ hqc]; rfl) rfl (by rw [plan_cells _ _ hqc]; simp; exact own_one (H.own 6 rfl)) ?_
  intro w11 H
  rw [plan_cells _ _ hqc] at H
  refine ⟨.inl rfl, ?_⟩
  obtain ⟨hc, hj, _, _⟩ := blk2 (H.blk 1 rfl)
  obtain ⟨hc2, hj2, _, _⟩ := blk2 (H.blk 8 rfl)
  simp [hc, hc2]
  refine ⟨hj, hj2, ?_⟩
  refine ifg_r (t := true) (by simp) (fun _ => ?_) (fun h => (h rfl).elim)
  refine callm (sameParts_c (ks := [0, 31]) (ms := [0, 31]) 1 1 (H.rd 0 rfl) (H.rd 6 rfl) (by unfold maxLen; decide)) (by simp (disch := omega) [wI, wU, tmod_nn, tdiv_nn, env0_0, env0_1, env0_2, env0_3, env0_4, env0_5, -env0_apply, planV]) ?_
  intro w' M'
  replace H := H.same M'
  simp
  refine ifg_r (t := true) (by simp) (fun _ => ?_) (fun h => (h rfl).elim)
  refine callm (sameInts_c (l := [0, 1, -2]) (m := [0, 1, -2]) (H.rd 2 rfl) (H.rd 7 rfl) (by unfold maxLen; decide)) (by simp (disch := omega) [wI, wU, tmod_nn, tdiv_nn, env0_0, env0_1, env0_2, env0_3, env0_4, env0_5, -env0_apply]) ?_
  intro w' M'
  replace H := H.same M'
  simp
  refine ifg_r (t := true) (by simp) (fun _ => ?_) (fun h => (h rfl).elim)
  obtain ⟨F, hW, _⟩ := H.wr 3 rfl
  refine callp (len_c hW) (by simp) ?_
  obtain ⟨hc, hj, _, _⟩ := blk2 (H.blk 1 rfl)
  simp [hkl, hc]
  refine ⟨hj, ?_⟩
  refine ifg_r (t := true) (by simp) (fun _ => ?_) (fun h => (h rfl).elim)
  refine callm (cost_p (ks := [0, 31]) (l := [0, 1, -2]) 1 4 1 (H.rd 0 rfl) (by decide) (H.rc 2 rfl) (by decide)) (by simp (disch := omega) [wI, wU, tmod_nn, tdiv_nn, env0_0, env0_1, env0_2, env0_3, env0_4, env0_5, -env0_apply, planV]) ?_
  intro w' M'
  replace H := H.same M'
  rw [kC]
  simp
  refine ifg_r (t := true) (by simp) (fun _ => ?_) (fun h => (h rfl).elim)
  obtain ⟨F, hW, _⟩ := H.wr 3 rfl
  refine callp (len_c hW) (by simp) ?_
  simp [hkl]
  refine ifg_r (t := true) (by simp) (fun _ => ?_) (fun h => (h rfl).elim)
  refine call_h (sizes_c 1 4 1) (by simp) ?_
  intro sv w12 HR
  rw [show szS 1 4 1 = [1, 2] by decide] at HR
  replace H := H.join HR
  simp
  refine ifg_r (t := true) (by simp) (fun _ => ?_) (fun h => (h rfl).elim)
  refine bs_h slTI (([1, 2] : List Int).map fun n => .int .i64 n) H rfl (by decide) (by simp) (by simp [Value.cells]) ?_
  intro zv w13 H M13
  rw [flat_ints] at H
  refine ⟨.inl rfl, ?_⟩
  simp
  refine ifg_r (t := true) (by simp) (fun _ => ?_) (fun h => (h rfl).elim)
  refine callm (sameInts_c (l := [1, 2]) (m := [1, 2]) (H.rd 9 rfl) (H.rd 10 rfl) (by unfold maxLen; decide)) (by simp (disch := omega) [wI, wU, tmod_nn, tdiv_nn, env0_0, env0_1, env0_2, env0_3, env0_4, env0_5, -env0_apply]) ?_
  intro w' M'
  replace H := H.same M'
  obtain ⟨hc, hj, _, _⟩ := blk2 (H.blk 1 rfl)
  simp [hc]
  refine ⟨hj, ?_⟩
  refine ifg_r (t := true) (by simp) (fun _ => ?_) (fun h => (h rfl).elim)
  refine callm (may_c (ks := [0, 31]) 1 5 1 (H.rd 0 rfl) (by decide)) (by simp (disch := omega) [wI, wU, tmod_nn, tdiv_nn, env0_0, env0_1, env0_2, env0_3, env0_4, env0_5, -env0_apply, planV]) ?_
  intro w' M'
  replace H := H.same M'
  rw [show mayB 1 [0, 31] 5 1 = false by decide]
  simp
  exact H.mod

end Go.Proofs.Ytajkofndbeohpaa.VG
