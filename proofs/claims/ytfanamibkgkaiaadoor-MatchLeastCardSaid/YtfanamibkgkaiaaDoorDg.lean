/-
  Match: what is known; the law of codes.
-/
import Derived.Test.YtfanamibkgkaiaaDoorDf
namespace Go.Proofs.YtfanamibkgkaiaaDoor.VG
open Go
set_option linter.unusedSimpArgs false
set_option linter.unusedVariables false
set_option maxRecDepth 20000

theorem gk1 : greedyL [5, 6, 5, 6, 5, 6, 5] = [(0, 0, 5), (0, 0, 6), (5, 2, 0)] := by decide
theorem gk2 : expR [(0, 0, 5), (0, 0, 6), (5, 2, 0)] 7 = ([5, 6, 5, 6, 5, 6, 5], true) := by decide
theorem gk3 : costT [(0, 0, 5), (0, 0, 6), (5, 2, 0)] 9 12 = 30 := by decide
theorem gk4 : nearI 4 8 = 7 ∧ codeI 8 8 = 1 ∧ codeI 1 1 = 1 := by decide

set_option maxHeartbeats 4000000 in
theorem mknown_c {w : World} (hP : Pts w) : Calls Tryd.prog 12 [].toArray w (Ret fun r w' => r = .bool true ∧ Mod none' w w') := by
  refine F_sound c12 (by simp [fc12]) ?_
  simp [fc12, s12]
  refine bs_h slTI (([5, 6, 5, 6, 5, 6, 5] : List Int).map fun n => .int .i64 n) (Hp.nil w) rfl (by decide) (by simp) (by simp [Value.cells]) ?_
  intro v1 w1 H M1
  rw [flat_ints] at H
  refine ⟨.inl rfl, ?_⟩
  refine call_h (greedy_c (l := [5, 6, 5, 6, 5, 6, 5]) (H.rd 0 rfl) (by decide)) (by simp) ?_
  rw [gk1]
  intro t w2 HR
  replace H := H.join HR
  replace H : Hp w w2 [.own 47 3 t 3 (toksV [(0, 0, 5), (0, 0, 6), (5, 2, 0)])] := H.drop 0
  simp
  refine call_h (expand_c (T := [(0, 0, 5), (0, 0, 6), (5, 2, 0)]) (H.rd 0 rfl) (by decide) 7 (by decide)) (by simp) ?_
  rw [gk2]
  rintro r w3 ⟨lv, rfl, HR2⟩
  replace H := H.join HR2
  replace H : Hp w w3 [.own 47 3 t 3 (toksV [(0, 0, 5), (0, 0, 6), (5, 2, 0)]), .own 3 1 lv 7 (intsV [5, 6, 5, 6, 5, 6, 5])] := H
  simp [putAt, Value.cells]
  refine bs_h slTT [tokV (0, 0, 5), tokV (0, 0, 6), tokV (5, 2, 0)] H rfl (by decide) (by simp [tokV, putAt, Value.cells]) (by simp [tokV, Value.cells]) ?_
  intro v2 w4 H M4
  replace H : Hp w w4 [.own 47 3 t 3 (toksV [(0, 0, 5), (0, 0, 6), (5, 2, 0)]), .own 3 1 lv 7 (intsV [5, 6, 5, 6, 5, 6, 5]), .own 47 3 v2 3 (toksV [(0, 0, 5), (0, 0, 6), (5, 2, 0)])] := H
  refine ⟨.inl rfl, ?_⟩
  refine callm (tokens_c (A := [(0, 0, 5), (0, 0, 6), (5, 2, 0)]) (B := [(0, 0, 5), (0, 0, 6), (5, 2, 0)]) (H.rd 0 rfl) (H.rd 2 rfl) (by decide)) (by simp) ?_
  intro w5 M5
  replace H := H.same M5
  simp
  refine ifg_r (t := true) (by simp) (fun _ => ?_) (fun h => (h rfl).elim)
  refine bs_h slTI (([5, 6, 5, 6, 5, 6, 5] : List Int).map fun n => .int .i64 n) H rfl (by decide) (by simp) (by simp [Value.cells]) ?_
  intro v3 w6 H M6
  rw [flat_ints] at H
  refine ⟨.inl rfl, ?_⟩
  simp
  refine ifg_r (t := true) (by simp) (fun _ => ?_) (fun h => (h rfl).elim)
  refine callm (ints_c (l := [5, 6, 5, 6, 5, 6, 5]) (m := [5, 6, 5, 6, 5, 6, 5]) (H.rd 1 rfl) (H.rd 3 rfl) (by unfold maxLen; decide)) (by simp (disch := omega) [wI, wU, tmod_nn, tdiv_nn, env0_0, env0_1, env0_2, env0_3, env0_4, env0_5, -env0_apply]) ?_
  intro w' M'
  replace H := H.same M'
  simp
  refine ifg_r (t := true) (by simp) (fun _ => ?_) (fun h => (h rfl).elim)
  refine callm (near_c (hP.at H.mod) 4 8) (by simp (disch := omega) [wI, wU, tmod_nn, tdiv_nn, env0_0, env0_1, env0_2, env0_3, env0_4, env0_5, -env0_apply]) ?_
  intro w' M'
  replace H := H.same M'
  rw [gk4.1]
  simp
  refine ifg_r (t := true) (by simp) (fun _ => ?_) (fun h => (h rfl).elim)
  refine callm (code_c (hP.at H.mod) 8 8) (by simp (disch := omega) [wI, wU, tmod_nn, tdiv_nn, env0_0, env0_1, env0_2, env0_3, env0_4, env0_5, -env0_apply]) ?_
  intro w' M'
  replace H := H.same M'
  rw [gk4.2.1]
  simp
  refine ifg_r (t := true) (by simp) (fun _ => ?_) (fun h => (h rfl).elim)
  refine callm (code_c (hP.at H.mod) 1 1) (by simp (disch := omega) [wI, wU, tmod_nn, tdiv_nn, env0_0, env0_1, env0_2, env0_3, env0_4, env0_5, -env0_apply]) ?_
  intro w' M'
  replace H := H.same M'
  rw [gk4.2.2]
  simp
  refine ifg_r (t := true) (by simp) (fun _ => ?_) (fun h => (h rfl).elim)
  refine callm (cost_c (T := [(0, 0, 5), (0, 0, 6), (5, 2, 0)]) (H.rd 0 rfl) (by decide) 9 12) (by simp (disch := omega) [wI, wU, tmod_nn, tdiv_nn, env0_0, env0_1, env0_2, env0_3, env0_4, env0_5, -env0_apply]) ?_
  intro w' M'
  replace H := H.same M'
  rw [gk3]
  simp
  exact H.mod

set_option maxHeartbeats 4000000 in
theorem mtells_law {w : World} (hP : Pts w) (code dist wd : Int) : Calls Tryd.prog 3 [.int .i64 code, .int .i64 dist, .int .i64 wd].toArray w (Ret fun r w' => r = .bool true ∧ Mod none' w w') := by
  refine F_sound c3 (by simp [fc3]) ?_
  simp [fc3, s3]
  refine callp (within_c wd 1 64 (by omega) (by omega) (by omega)) (by simp) ?_
  have hb := with_bd (n := wd) (lo := 1) (hi := 64) (by omega)
  generalize withI wd 1 64 = b at *
  simp
  refine for_r 32 (fun i env' w' => env' 0 = .int .i64 code ∧ env' 1 = .int .i64 dist ∧ env' 2 = .int .i64 wd ∧ env' 7 = .int .i64 b ∧ env' 8 = .int .i64 ((i : Int) - 1) ∧ Mod none' w w') ?_ ?_ ?_
  · simp [Mod.refl]
  · rintro i env w1 hi ⟨e0, e1, e2, e7, e8, M1⟩
    have H := Hp.ofMod M1
    simp [e8]
    refine ite_r (t := true) (by simp; omega) (fun _ => ?_) (fun h => by cases h)
    simp [wp_blk]
    refine callm (near_c (hP.at H.mod) ((i : Int) - 1) b) (by simp (disch := omega) [wI, wU, tmod_nn, tdiv_nn, env0_0, env0_1, env0_2, env0_3, env0_4, env0_5, -env0_apply, e7, e8]) ?_
    intro w' M'
    replace H := H.same M'
    refine callm (near2_c ((i : Int) - 1) b) (by simp (disch := omega) [wI, wU, tmod_nn, tdiv_nn, env0_0, env0_1, env0_2, env0_3, env0_4, env0_5, -env0_apply, e7, e8]) ?_
    intro w' M'
    replace H := H.same M'
    simp
    refine ifg_r (t := false) (by simp) (fun _ => ?_) (fun h => (h rfl).elim)
    refine callm (code_c (hP.at H.mod) ((i : Int) - 1) b) (by simp (disch := omega) [wI, wU, tmod_nn, tdiv_nn, env0_0, env0_1, env0_2, env0_3, env0_4, env0_5, -env0_apply, e7, e8]) ?_
    intro w' M'
    replace H := H.same M'
    simp
    refine ifg_r (t := false) (by simp) (fun _ => ?_) (fun h => (h rfl).elim)
    refine callm (code2_c ((i : Int) - 1) b) (by simp (disch := omega) [wI, wU, tmod_nn, tdiv_nn, env0_0, env0_1, env0_2, env0_3, env0_4, env0_5, -env0_apply, e7, e8]) ?_
    intro w' M'
    replace H := H.same M'
    simp
    refine ite_r (t := false) (by simp) (fun h => by cases h) (fun _ => ?_)
    simp [e0, e1, e2, e7, e8]
    exact ⟨wI (by omega) (by omega), H.mod⟩
  · rintro env w1 ⟨e0, e1, e2, e7, e8, M1⟩
    have H := Hp.ofMod M1
    have db := with_bd (n := dist) (lo := 1) (hi := 1024) (by omega)
    have hnc := near_code (d := withI dist 1 1024) (wd := b) (by omega) (by omega)
    simp [e8]
    refine ite_r (t := false) (by simp) (fun h => by cases h) (fun _ => ?_)
    refine callp (within_c dist 1 1024 (by omega) (by omega) (by omega)) (by simp [e1]) ?_
    generalize withI dist 1 1024 = d at *
    simp
    refine callm (near_c (hP.at H.mod) code wd) (by simp (disch := omega) [wI, wU, tmod_nn, tdiv_nn, env0_0, env0_1, env0_2, env0_3, env0_4, env0_5, -env0_apply, e0, e2]) ?_
    intro w' M'
    replace H := H.same M'
    refine callm (near2_c code wd) (by simp (disch := omega) [wI, wU, tmod_nn, tdiv_nn, env0_0, env0_1, env0_2, env0_3, env0_4, env0_5, -env0_apply, e0, e2]) ?_
    intro w' M'
    replace H := H.same M'
    simp [e0]
    refine ifg_r (t := true) (by simp) (fun _ => ?_) (fun h => (h rfl).elim)
    refine callm (near_c (hP.at H.mod) (bitw .and .i64 code 2047) b) (by simp (disch := omega) [wI, wU, tmod_nn, tdiv_nn, env0_0, env0_1, env0_2, env0_3, env0_4, env0_5, -env0_apply, e0, e7]) ?_
    intro w' M'
    replace H := H.same M'
    simp [e0]
    refine ifg_r (t := true) (by simp) (fun _ => ?_) (fun h => (h rfl).elim)
    refine callm (near2_c (bitw .and .i64 code 2047) b) (by simp (disch := omega) [wI, wU, tmod_nn, tdiv_nn, env0_0, env0_1, env0_2, env0_3, env0_4, env0_5, -env0_apply, e0, e7]) ?_
    intro w' M'
    replace H := H.same M'
    simp
    refine ifg_r (t := true) (by simp) (fun _ => ?_) (fun h => (h rfl).elim)
    refine callm (code_c (hP.at H.mod) dist wd) (by simp (disch := omega) [wI, wU, tmod_nn, tdiv_nn, env0_0, env0_1, env0_2, env0_3, env0_4, env0_5, -env0_apply, e1, e2]) ?_
    intro w' M'
    replace H := H.same M'
    simp
    refine ifg_r (t := true) (by simp) (fun _ => ?_) (fun h => (h rfl).elim)
    refine callm (code2_c dist wd) (by simp (disch := omega) [wI, wU, tmod_nn, tdiv_nn, env0_0, env0_1, env0_2, env0_3, env0_4, env0_5, -env0_apply, e1, e2]) ?_
    intro w' M'
    replace H := H.same M'
    simp
    refine ifg_r (t := true) (by simp) (fun _ => ?_) (fun h => (h rfl).elim)
    refine callm (code_c (hP.at H.mod) d b) (by simp (disch := omega) [wI, wU, tmod_nn, tdiv_nn, env0_0, env0_1, env0_2, env0_3, env0_4, env0_5, -env0_apply, e7]) ?_
    intro w' M'
    replace H := H.same M'
    simp
    refine ifg_r (t := true) (by simp) (fun _ => ?_) (fun h => (h rfl).elim)
    refine callm (near_c (hP.at H.mod) (codeI d b) b) (by simp (disch := omega) [wI, wU, tmod_nn, tdiv_nn, env0_0, env0_1, env0_2, env0_3, env0_4, env0_5, -env0_apply, e7]) ?_
    intro w' M'
    replace H := H.same M'
    rw [hnc]
    simp
    refine ifg_r (t := true) (by simp) (fun _ => ?_) (fun h => (h rfl).elim)
    refine callm (mknown_c (hP.at H.mod)) (by simp (disch := omega) [wI, wU, tmod_nn, tdiv_nn, env0_0, env0_1, env0_2, env0_3, env0_4, env0_5, -env0_apply]) ?_
    intro w' M'
    replace H := H.same M'
    simp
    exact H.mod

end Go.Proofs.YtfanamibkgkaiaaDoor.VG
