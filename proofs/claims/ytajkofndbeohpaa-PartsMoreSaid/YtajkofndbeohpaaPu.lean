/-
  Parts: laws of the best plan: least, more.
-/
import Derived.Test.YtajkofndbeohpaaPt
namespace Go.Proofs.Ytajkofndbeohpaa.VG
open Go
set_option linter.unusedSimpArgs false
set_option linter.unusedVariables false

set_option maxHeartbeats 4000000 in
theorem pleast_law {w : World} {kv v : Value} {ks l : List Int} (o n wm most : Int) (h : Rc (fun k => k < w.heap.size) w kv ks.length (intsV ks)) (hv : Rc (fun k => k < w.heap.size) w v l.length (intsV l)) :
    Calls Try.prog 10 [planV o kv, .int .i64 n, .int .i64 wm, .int .i64 most, v].toArray w (Ret fun r w' => r = .bool true ∧ Mod none' w w') := by
  refine F_sound c10 (by simp [fc10]) ?_
  have hkc : kv.cells = #[kv] := by obtain ⟨cap, hv⟩ := h.rd.is; rw [hv]; rfl
  obtain ⟨vS, vL, vC⟩ := hv.sl
  obtain ⟨kS, kL, kC⟩ := h.sl
  simp [fc10, s10]
  refine box_h (planV o kv) (Hp.nil w) (by simp) ?_
  intro t w1 H M1
  rw [plan_cells _ _ hkc] at H
  refine ⟨.inl rfl, ?_⟩
  simp
  refine callm (pknown_c) (by simp (disch := omega) [wI, wU, tmod_nn, tdiv_nn, env0_0, env0_1, env0_2, env0_3, env0_4, env0_5, -env0_apply]) ?_
  intro w' M'
  replace H := H.same M'
  simp
  refine ite_r (t := false) (by simp) (fun h => by cases h) (fun _ => ?_)
  obtain ⟨hc, hj, hb0, hb1⟩ := blk2 (H.blk 0 rfl)
  simp [hb1, kS, kL, vS, vL]
  by_cases hsm : 70 < ks.length ∨ 130 < l.length
  · have hno : ks.length ≤ 70 → ¬ l.length ≤ 130 := fun a => by omega
    refine ⟨fun a b => absurd b (by omega), ?_⟩
    refine ifg_r (t := true) (by simp; omega) (fun h => by cases h) (fun _ => ?_)
    simp
    refine ⟨fun a b => absurd b (by omega), fun a b => absurd b (by omega), ?_⟩
    refine ifg_r (t := true) (by simp; omega) (fun h => by cases h) (fun _ => ?_)
    simp
    refine ⟨fun a b => absurd b (by omega), ?_⟩
    refine ite_r (t := true) (by simp; omega) (fun _ => ?_) (fun h => by cases h)
    simp
    exact H.mod
  refine ⟨fun _ _ => hj, ?_⟩
  have hs1 : ks.length ≤ 70 := by omega
  have hs2 : l.length ≤ 130 := by omega
  have hq : ¬ ((ks.length : Int) ≤ 70 → (130 : Int) < (l.length : Int)) := by omega
  refine ifg_r (t := false) (by simp; omega) (fun _ => ?_) (fun h => (h rfl).elim)
  refine callm (may2_c o n wm (h.rd.at H.mod) (by omega)) (by simp (disch := omega) [wI, wU, tmod_nn, tdiv_nn, env0_0, env0_1, env0_2, env0_3, env0_4, env0_5, -env0_apply, planV, hc, hs1, hs2, hq]) ?_
  intro w' M'
  replace H := H.same M'
  cases hm : mayB o ks n wm
  · simp
    refine ifg_r (t := true) (by simp) (fun h => by cases h) (fun _ => ?_)
    simp
    refine ite_r (t := true) (by simp) (fun _ => ?_) (fun h => by cases h)
    simp
    exact H.mod
  have hr' := rowB_iff.1 (szB_iff.1 (may_iff.1 hm).1).1
  have hwn : IntKind.i64.wrap (n - wm) = n - wm := wI (by omega) (by omega)
  simp [hs1, hs2, vS, vL, hwn]
  by_cases hln : (l.length : Int) = n - wm
  rotate_left
  · refine ifg_r (t := true) (by simp [hln]) (fun h => by cases h) (fun _ => ?_)
    simp [hln]
    refine ite_r (t := true) (by simp [hln]) (fun _ => ?_) (fun h => by cases h)
    simp
    exact H.mod
  refine ifg_r (t := false) (by simp [hln, hs1, hs2]; omega) (fun _ => ?_) (fun h => (h rfl).elim)
  refine callp (allWide2_c (hv.rd.at H.mod) (by unfold maxLen; omega)) (by simp) ?_
  cases ha : allW l
  · simp
    refine ite_r (t := true) (by simp) (fun _ => ?_) (fun h => by cases h)
    simp
    exact H.mod
  simp [hln, hs1, hs2]
  refine ite_r (t := false) (by simp; omega) (fun h => by cases h) (fun _ => ?_)
  have hr : rightB n wm l = true := right_iff.2 ⟨(szB_iff.1 (may_iff.1 hm).1).1, hln, ha⟩
  obtain ⟨i2, hi2, hz2⟩ : ∃ i, Try.prog.info? 24 = some i ∧ i.zero = some (planV 0 (.slice none 0 0)) := ⟨_, rfl, rfl⟩
  have hpn : (planV 0 (.slice none 0 0)).cells = #[.int .i64 0, .slice none 0 0] := plan_cells 0 _ rfl
  obtain ⟨o', ks', hb, ho', hm', hc', hlst⟩ := best_is most hr (by omega)
  refine call_h (pbest_c n wm most (hv.at H.mod) (by omega)) (by simp) ?_
  rw [hb]
  rintro r w2 ⟨qv, rfl, HR⟩
  replace H := H.join HR
  simp only at H
  simp
  have hqc : qv.cells = #[qv] := by obtain ⟨cap, hv⟩ := (H.rd 1 rfl).is; rw [hv]; rfl
  refine alloc_h H hi2 hz2 ?_
  intro t2 w3 H M3
  rw [hpn] at H
  refine ⟨.inl rfl, ?_⟩
  refine stAll_h 2 H rfl (v := planV o' qv) (by simp) (by simp) (by rw [plan_cells _ _ hqc]; rfl) rfl (by rw [plan_cells _ _ hqc]; simp; exact own_one (H.own 1 rfl)) ?_
  intro w4 H
  rw [plan_cells _ _ hqc] at H
  refine ⟨.inl rfl, ?_⟩
  have hkl' := (may_iff.1 hm').2.1
  have hle' := szS_le o' n wm
  obtain ⟨hcc, hjj, hb0, hb1⟩ := blk2 (H.blk 2 rfl)
  simp [hcc]
  refine ⟨hjj, ?_⟩
  refine ifg_r (t := false) (by simp) (fun _ => ?_) (fun h => (h rfl).elim)
  refine callm (may_c o' n wm (H.rd 1 rfl) (by omega)) (by simp (disch := omega) [wI, wU, tmod_nn, tdiv_nn, env0_0, env0_1, env0_2, env0_3, env0_4, env0_5, -env0_apply, planV, hcc]) ?_
  intro w' M'
  replace H := H.same M'
  obtain ⟨hcc, hjj, hb0, hb1⟩ := blk2 (H.blk 2 rfl)
  simp [hm', hb0]
  refine ite_r (t := false) (by simp; omega) (fun h => by cases h) (fun _ => ?_)
  simp [hcc]
  refine ⟨hjj, ?_⟩
  refine callm (cost_p o' n wm (H.rd 1 rfl).top (by omega) (hv.at H.mod).top (by omega)) (by simp (disch := omega) [wI, wU, tmod_nn, tdiv_nn, env0_0, env0_1, env0_2, env0_3, env0_4, env0_5, -env0_apply, planV, hcc]) ?_
  intro w' M'
  replace H := H.same M'
  obtain ⟨hcc, hjj, hb0, hb1⟩ := blk2 (H.blk 0 rfl)
  simp [hb0, hc']
  by_cases hom : most < o
  · refine ⟨fun _ => hjj, ?_⟩
    refine ifg_r (t := true) (by simp [hc', hom]) (fun h => by cases h) (fun _ => ?_)
    simp [hc', hom]
    exact H.mod
  have hlo := hlst o ks (by omega) hm
  have hom' : o ≤ most := by omega
  refine ⟨fun _ => hjj, ?_⟩
  refine ifg_r (t := false) (by simp [hc', hom]) (fun _ => ?_) (fun h => (h rfl).elim)
  refine callm (cost_p o n wm (h.rd.at H.mod).top (by omega) (hv.at H.mod).top (by omega)) (by simp (disch := omega) [wI, wU, tmod_nn, tdiv_nn, env0_0, env0_1, env0_2, env0_3, env0_4, env0_5, -env0_apply, planV, hcc, hc', hom']) ?_
  intro w' M'
  replace H := H.same M'
  simp [hc', hom']
  exact ⟨.inr hlo, H.mod⟩

set_option maxHeartbeats 4000000 in
theorem pmore_law {w : World} {v : Value} {l : List Int} (wm a b : Int) (hv : Rc (fun k => k < w.heap.size) w v l.length (intsV l)) :
    Calls Try.prog 11 [v, .int .i64 wm, .int .i64 a, .int .i64 b].toArray w (Ret fun r w' => r = .bool true ∧ Mod none' w w') := by
  refine F_sound c11 (by simp [fc11]) ?_
  obtain ⟨vS, vL, vC⟩ := hv.sl
  simp [fc11, s11]
  refine callm pknown_c (by simp) ?_
  intro w1 M1
  have H := Hp.ofMod M1
  simp
  refine ite_r (t := false) (by simp) (fun h => by cases h) (fun _ => ?_)
  simp [vS, vL]
  have hnz : l = [] ↔ l.length = 0 := List.length_eq_zero_iff.symm
  by_cases hbig : 120 < l.length ∨ l.length = 0
  · refine ifg_r (t := true) (by simp [-List.length_eq_zero_iff, hnz]; omega) (fun h => by cases h) (fun _ => ?_)
    simp [-List.length_eq_zero_iff, hnz]
    refine ⟨fun _ _ => by omega, ?_⟩
    refine ite_r (t := true) (by simp [-List.length_eq_zero_iff, hnz]; omega) (fun _ => ?_) (fun h => by cases h)
    simp
    exact M1
  have hl1 : 0 < l.length := by omega
  have hl2 : l.length ≤ 120 := by omega
  refine ifg_r (t := false) (by simp [-List.length_eq_zero_iff, hnz]; omega) (fun _ => ?_) (fun h => (h rfl).elim)
  refine callp (allWide2_c (hv.rd.at H.mod) (by unfold maxLen; omega)) (by simp) ?_
  simp
  cases ha : allW l
  · refine ite_r (t := true) (by simp) (fun _ => ?_) (fun h => by cases h)
    simp
    exact M1
  refine ite_r (t := false) (by simp [-List.length_eq_zero_iff, hnz]; omega) (fun h => by cases h) (fun _ => ?_)
  obtain ⟨K, hK, hK8⟩ := and_nat wm 8 (by omega)
  simp at hK
  obtain ⟨k, hk⟩ : ∃ k, k = K % 9 := ⟨_, rfl⟩
  have hk9 : (K : Int).tmod 9 = (k : Int) := by rw [hk, Int.tmod_eq_emod_of_nonneg (by omega)]; omega
  have hkl : k < 9 := by omega
  have hw1 : IntKind.i64.wrap ((l.length : Int) + k) = (l.length : Int) + k := wI (by omega) (by omega)
  have hrow : rowB ((l.length : Int) + k) k = true := rowB_iff.2 (by omega)
  have hr : rightB ((l.length : Int) + k) k l = true := right_iff.2 ⟨hrow, by omega, ha⟩
  simp [hK, hk9, vS, vL, hw1]
  obtain ⟨o1, ks1, hb1, ho1, hm1, hc1, hl1⟩ := best_is (min a b) hr (by omega)
  obtain ⟨o2, ks2, hb2, ho2, hm2, hc2, hl2⟩ := best_is (max a b) hr (by omega)
  obtain ⟨hm0, hc0⟩ := cost_raw_plan hr
  have h10 := hl1 0 [31] (by omega) hm0
  have h21 := hl2 o1 ks1 (by omega) hm1
  have hk1 := (may_iff.1 hm1).2.1
  have hk2 := (may_iff.1 hm2).2.1
  have hz1 := szS_le o1 ((l.length : Int) + k) k
  have hz2 := szS_le o2 ((l.length : Int) + k) k
  have hmul := mul32 (widL l) l.length (widL_le l) (by omega)
  generalize ((l.length : Int) + k) = n at *
  obtain ⟨i2, hi2, hzz⟩ : ∃ i, Try.prog.info? 24 = some i ∧ i.zero = some (planV 0 (.slice none 0 0)) := ⟨_, rfl, rfl⟩
  have hpn : (planV 0 (.slice none 0 0)).cells = #[.int .i64 0, .slice none 0 0] := plan_cells 0 _ rfl
  refine call_h (pbest_c n k (min a b) (hv.at H.mod) (by omega)) (by simp [hK, hk9]; split <;> omega) ?_
  rw [hb1]
  rintro r w2 ⟨q1, rfl, HR⟩
  replace H := H.join HR
  simp only at H
  simp
  have hq1 : q1.cells = #[q1] := by obtain ⟨cap, hv⟩ := (H.rd 0 rfl).is; rw [hv]; rfl
  refine alloc_h H hi2 hzz ?_
  intro t1 w3 H M3
  rw [hpn] at H
  refine ⟨.inl rfl, ?_⟩
  refine stAll_h 1 H rfl (v := planV o1 q1) (by simp) (by simp) (by rw [plan_cells _ _ hq1]; rfl) rfl (by rw [plan_cells _ _ hq1]; simp; exact own_one (H.own 0 rfl)) ?_
  intro w4 H
  rw [plan_cells _ _ hq1] at H
  refine ⟨.inl rfl, ?_⟩
  simp
  refine call_h (pbest_c n k (max a b) (hv.at H.mod) (by omega)) (by simp [hK, hk9]; split <;> omega) ?_
  rw [hb2]
  rintro r w5 ⟨q2, rfl, HR⟩
  replace H := H.join HR
  simp only at H
  simp
  have hq2 : q2.cells = #[q2] := by obtain ⟨cap, hv⟩ := (H.rd 2 rfl).is; rw [hv]; rfl
  refine alloc_h H hi2 hzz ?_
  intro t2 w6 H M6
  rw [hpn] at H
  refine ⟨.inl rfl, ?_⟩
  refine stAll_h 3 H rfl (v := planV o2 q2) (by simp) (by simp) (by rw [plan_cells _ _ hq2]; rfl) rfl (by rw [plan_cells _ _ hq2]; simp; exact own_one (H.own 2 rfl)) ?_
  intro w7 H
  rw [plan_cells _ _ hq2] at H
  refine ⟨.inl rfl, ?_⟩
  simp
  refine ite_r (t := false) (by simp) (fun h => by cases h) (fun _ => ?_)
  replace H := H.drew
  obtain ⟨hcc1, hjj1, _, _⟩ := blk2 (H.blk 1 rfl)
  obtain ⟨hcc2, hjj2, _, _⟩ := blk2 (H.blk 3 rfl)
  rw [cellsFrom_drew] at hcc1 hcc2
  simp at hjj1 hjj2
  simp [hcc1, hcc2]
  refine ⟨hjj1, hjj2, ?_⟩
  refine call_r _ (cost_p o1 n k (H.rd 0 rfl).top (by omega) (hv.at H.mod).top (by omega)) (by simp [planV, hK, hk9]) ?_
  rintro r w8 ⟨rfl, M'⟩
  have H0 := H
  replace H := H.same M'
  refine ⟨by simp [promOk]; exact same_blk (H0.blk 3 rfl) (H.blk 3 rfl), ?_⟩
  simp
  refine callm (cost_p o2 n k (H.rd 2 rfl).top (by omega) (hv.at H.mod).top (by omega)) (by simp (disch := omega) [wI, wU, tmod_nn, tdiv_nn, env0_0, env0_1, env0_2, env0_3, env0_4, env0_5, -env0_apply, planV, hK, hk9]) ?_
  intro w' M'
  replace H := H.same M'
  simp [hc1, hc2, h21, vS, vL]
  refine ifg_r (t := true) (by simp) (fun _ => ?_) (fun h => (h rfl).elim)
  refine callp (width2_c (hv.rd.at H.mod) (by omega)) (by simp) ?_
  have hcm : (l.length : Int) * (widL l : Int) = (widL l : Int) * (l.length : Int) := Int.mul_comm _ _
  have hwa : IntKind.i64.wrap ((widL l : Int) * (l.length : Int)) = (widL l : Int) * (l.length : Int) := wI (by omega) (by omega)
  have hwb : IntKind.i64.wrap (14 + (widL l : Int) * (l.length : Int)) = 14 + (widL l : Int) * (l.length : Int) := wI (by omega) (by omega)
  unfold rawI at hc0
  simp [vS, vL, hcm, hwa, hwb]
  exact ⟨by omega, H.mod⟩

end Go.Proofs.Ytajkofndbeohpaa.VG
