/-
  Model: what is known; levels, what is turned.
-/
import Derived.Test.YtcljnpodfhgjkaaMf
namespace Go.Proofs.Ytcljnpodfhgjkaa.VG
open Go
set_option linter.unusedSimpArgs false
set_option linter.unusedVariables false
set_option maxRecDepth 20000

theorem NewR.ok {w w' : World} {d : Int} {r : Value} (h : NewR w d r w') (hd : dep d = true) : ∃ t, r = .tuple #[.pointer (some ⟨t, 0, none⟩), .int .i64 0] ∧ Hp w w' [.blk t (cellsF (newF d) 1461)] := by
  rcases h with ⟨h, _⟩ | ⟨_, h⟩
  · rw [hd] at h; cases h
  · exact h

set_option maxHeartbeats 2000000 in
theorem known_c {w : World} : Calls Try.prog 10 [].toArray w (Ret fun r w' => r = .bool true ∧ Mod none' w w') := by
  refine F_sound c10 (by simp [fc10]) ?_
  simp [fc10, s10]
  have e1 : ctxI 0 10 0 10 8 = 27 := by decide
  have e2 : clsI 0 10 0 10 8 = 3 := by decide
  have e3 : lvlI (-7) 8 = -3 := by decide
  have e4 : lvlI 2 8 = 1 := by decide
  have hd8 : dep 8 = true := by decide
  refine callm (ctx_c 0 10 0 10 8) (by simp) ?_
  intro w1 M1
  have H := Hp.ofMod M1
  simp [ctxV, e1, farI]
  refine call_h (mnew_c 8) (by simp) ?_
  rintro r w2 hr
  obtain ⟨t, rfl, HR⟩ := hr.ok hd8
  replace H := H.join HR
  replace H : Hp w w2 [.blk t (cellsF (newF 8) 1461)] := H
  simp
  refine ite_r (t := false) (by simp) (fun h => by cases h) (fun _ => ?_)
  obtain ⟨hM, _, _, up⟩ := H.md 0 rfl
  refine call_h (learn_c hM (newF_wf hd8) 3 (-2)) (by simp) ?_
  rintro r w3 HA
  replace H := up _ _ HA
  have hf := lrn_wf (newF_wf hd8) 3 (-2)
  have s1 : statV (lrn (newF 8) 3 (-2)) 3 = .tuple #[.int .i64 2, .int .i64 6, .int .i64 0, .int .i64 (-1)] := by
    have f0 : lrn (newF 8) 3 (-2) 13 = 2 := by decide
    have f1 : lrn (newF 8) 3 (-2) 14 = 6 := by decide
    have f2 : lrn (newF 8) 3 (-2) 15 = 0 := by decide
    have f3 : lrn (newF 8) 3 (-2) 16 = -1 := by decide
    have hc : isC 3 = true := by decide
    rw [statV, if_pos hc, show ctxO 3 = 13 from rfl, f0, f1, f2, f3]
  have s2 : kOf (lrn (newF 8) 3 (-2)) 3 = 2 := by decide
  have s3 : gueI (lrn (newF 8) 3 (-2)) 3 0 false = 0 := by decide
  have s4 : gueI (lrn (newF 8) 3 (-2)) 3 9 true = 10 := by decide
  generalize lrn (newF 8) 3 (-2) = f at *
  simp
  refine callm (stat_c (H.md 0 rfl).1 3) (by simp (disch := omega) [wI, wU, tmod_nn, tdiv_nn, env0_0, env0_1, env0_2, env0_3, env0_4, env0_5, -env0_apply]) ?_
  intro w' M'
  replace H := H.same M'
  rw [s1]
  simp
  refine callp (level_c (-7) 8) (by simp) ?_
  simp [e3]
  refine ifg_r (t := true) (by simp) (fun _ => ?_) (fun h => (h rfl).elim)
  refine callp (level_c 2 8) (by simp) ?_
  simp [e4]
  refine ifg_r (t := true) (by simp) (fun _ => ?_) (fun h => (h rfl).elim)
  refine callm (cls_c 0 10 0 10 8) (by simp (disch := omega) [wI, wU, tmod_nn, tdiv_nn, env0_0, env0_1, env0_2, env0_3, env0_4, env0_5, -env0_apply]) ?_
  intro w' M'
  replace H := H.same M'
  simp [e2]
  refine ifg_r (t := true) (by simp) (fun _ => ?_) (fun h => (h rfl).elim)
  refine callm (k_c (H.md 0 rfl).1 hf 3) (by simp (disch := omega) [wI, wU, tmod_nn, tdiv_nn, env0_0, env0_1, env0_2, env0_3, env0_4, env0_5, -env0_apply]) ?_
  intro w' M'
  replace H := H.same M'
  simp [s2]
  refine ifg_r (t := true) (by simp) (fun _ => ?_) (fun h => (h rfl).elim)
  refine callm (gue_c (H.md 0 rfl).1 hf 3 0 false) (by simp (disch := omega) [wI, wU, tmod_nn, tdiv_nn, env0_0, env0_1, env0_2, env0_3, env0_4, env0_5, -env0_apply]) ?_
  intro w' M'
  replace H := H.same M'
  simp [s3]
  refine ifg_r (t := true) (by simp) (fun _ => ?_) (fun h => (h rfl).elim)
  refine callm (gue_c (H.md 0 rfl).1 hf 3 9 true) (by simp (disch := omega) [wI, wU, tmod_nn, tdiv_nn, env0_0, env0_1, env0_2, env0_3, env0_4, env0_5, -env0_apply]) ?_
  intro w' M'
  replace H := H.same M'
  simp [s4]
  exact H.mod

theorem llev_c {w : World} (g x n a b d : Int) (hg : -9223372036854775808 ≤ g ∧ g ≤ 9223372036854775807) : Calls Try.prog 9 [.int .i64 g, .int .i64 x, .int .i64 n, .int .i64 a, .int .i64 b, .int .i64 d].toArray w (Ret fun r w' => r = .bool true ∧ Mod none' w w') := by
  refine F_sound c9 (by simp [fc9]) ?_
  simp [fc9, s9]
  refine callm (ctx_c x n a b d) (by simp) ?_
  intro w1 M1
  have H := Hp.ofMod M1
  simp [ctxV]
  refine callm (ctx2_c x n a b d) (by simp (disch := omega) [wI, wU, tmod_nn, tdiv_nn, env0_0, env0_1, env0_2, env0_3, env0_4, env0_5, -env0_apply]) ?_
  intro w' M'
  replace H := H.same M'
  simp [ctxV]
  refine callp (level_c g d) (by simp) ?_
  refine callp (level2_c g d hg) (by simp) ?_
  simp
  refine ifg_r (t := true) (by simp) (fun _ => ?_) (fun h => (h rfl).elim)
  refine callm (cls_c x n a b d) (by simp (disch := omega) [wI, wU, tmod_nn, tdiv_nn, env0_0, env0_1, env0_2, env0_3, env0_4, env0_5, -env0_apply]) ?_
  intro w' M'
  replace H := H.same M'
  simp
  refine ifg_r (t := true) (by simp) (fun _ => ?_) (fun h => (h rfl).elim)
  refine callm (cls2_c x n a b d) (by simp (disch := omega) [wI, wU, tmod_nn, tdiv_nn, env0_0, env0_1, env0_2, env0_3, env0_4, env0_5, -env0_apply]) ?_
  intro w' M'
  replace H := H.same M'
  simp
  exact H.mod

end Go.Proofs.Ytcljnpodfhgjkaa.VG
