/-
  Model: the laws of levels and of what is turned.
-/
import Derived.Test.YtcljnpodfhgjkaaMg
namespace Go.Proofs.Ytcljnpodfhgjkaa.VG
open Go
set_option linter.unusedSimpArgs false
set_option linter.unusedVariables false
set_option maxRecDepth 20000

set_option maxHeartbeats 4000000 in
theorem mlevels_law {w : World} (g f0 f1 f2 f3 dp : Int) (hg : -9223372036854775808 ≤ g ∧ g ≤ 9223372036854775807) :
    Calls Try.prog 3 [.int .i64 g, .agg #[.int .i64 f0, .int .i64 f1, .int .i64 f2, .int .i64 f3], .int .i64 dp].toArray w (Ret fun r w' => r = .bool true ∧ Mod none' w w') := by
  refine F_sound c3 (by simp [fc3]) ?_
  simp [fc3, s3]
  refine box_h (.agg #[.int .i64 f0, .int .i64 f1, .int .i64 f2, .int .i64 f3]) (Hp.nil w) (by simp) ?_
  intro t4 w0 H M0
  refine ⟨.inl rfl, ?_⟩
  replace H : Hp w w0 [.blk t4 #[.int .i64 f0, .int .i64 f1, .int .i64 f2, .int .i64 f3]] := H
  have g5 : bitw .and .i64 g 31 = g % 32 := and_m g 5 (by omega)
  have w5 : IntKind.i64.wrap (g % 32 - 15) = g % 32 - 15 := wI (by omega) (by omega)
  simp
  refine for_r 18 (fun i env' w' => env' 0 = .int .i64 g ∧ env' 2 = .int .i64 dp ∧ env' 4 = .pointer (some ⟨t4, 0, none⟩) ∧ env' 7 = .int .i64 i ∧ Hp w w' [.blk t4 #[.int .i64 f0, .int .i64 f1, .int .i64 f2, .int .i64 f3]]) ?_ ?_ ?_
  · simp
    exact H
  · rintro i env w1 hi ⟨e0, e2, e4, e7, H⟩
    have wi : IntKind.i64.wrap ((i : Int) + 1) = ((i + 1 : Nat) : Int) := by rw [wI (by omega) (by omega)]; omega
    simp [e7]
    refine ite_r (t := true) (by simp; omega) (fun _ => ?_) (fun h => by cases h)
    obtain ⟨c0, c1, c2, c3⟩ := blk4 (H.blk 0 rfl)
    replace H := H.drew
    simp [wp_blk, e4, c0, c1, c2, c3]
    refine call_r _ (wrap2_c f0 i) (by simp [e7]) ?_
    rintro r _ ⟨rfl, rfl⟩
    refine ⟨by simp [promOk, SameCells], ?_⟩
    refine call_r _ (wrap2_c f1 i) (by simp [e7]) ?_
    rintro r _ ⟨rfl, rfl⟩
    refine ⟨by simp [promOk, SameCells], ?_⟩
    refine call_r _ (wrap2_c f2 i) (by simp [e7]) ?_
    rintro r _ ⟨rfl, rfl⟩
    refine ⟨by simp [promOk, SameCells], ?_⟩
    refine callp (wrap2_c f3 i) (by simp [e7]) ?_
    simp
    refine callm (llev_c g (wrapI f0 i) (wrapI f1 i) (wrapI f2 i) (wrapI f3 i) i hg) (by simp (disch := omega) [wI, wU, tmod_nn, tdiv_nn, env0_0, env0_1, env0_2, env0_3, env0_4, env0_5, -env0_apply, e0, e7]) ?_
    intro w' M'
    replace H := H.same M'
    simp [e0, g5]
    refine ifg_r (t := false) (by simp) (fun _ => ?_) (fun h => (h rfl).elim)
    refine callm (llev_c (g % 32 - 15) (wrapI f0 i) (wrapI f1 i) (wrapI f0 i) (wrapI f3 i) i (by omega)) (by simp (disch := omega) [wI, wU, tmod_nn, tdiv_nn, env0_0, env0_1, env0_2, env0_3, env0_4, env0_5, -env0_apply, e0, e7, g5, w5]) ?_
    intro w' M'
    replace H := H.same M'
    simp
    refine ite_r (t := false) (by simp) (fun h => by cases h) (fun _ => ?_)
    simp [e0, e2, e4, e7, wi, -Int.natCast_add]
    exact ⟨by omega, H⟩
  · rintro env w1 ⟨e0, e2, e4, e7, H⟩
    simp [e7]
    refine ite_r (t := false) (by simp) (fun h => by cases h) (fun _ => ?_)
    obtain ⟨c0, c1, c2, c3⟩ := blk4 (H.blk 0 rfl)
    simp [e4, c0, c1, c2, c3]
    refine callm (llev_c g f0 f1 f2 f3 dp hg) (by simp (disch := omega) [wI, wU, tmod_nn, tdiv_nn, env0_0, env0_1, env0_2, env0_3, env0_4, env0_5, -env0_apply, e0, e2]) ?_
    intro w' M'
    replace H := H.same M'
    simp
    refine ifg_r (t := true) (by simp) (fun _ => ?_) (fun h => (h rfl).elim)
    refine callm (known_c) (by simp (disch := omega) [wI, wU, tmod_nn, tdiv_nn, env0_0, env0_1, env0_2, env0_3, env0_4, env0_5, -env0_apply]) ?_
    intro w' M'
    replace H := H.same M'
    simp
    exact H.mod

theorem okN_turn {x n a b d : Int} (h : dep d = true) : okN (p2 d - 1 - x) (p2 d - 1 - n) (p2 d - 1 - a) (p2 d - 1 - b) d = okN x n a b d := by
  have e1 := @okN_iff (p2 d - 1 - x) (p2 d - 1 - n) (p2 d - 1 - a) (p2 d - 1 - b) d
  have e2 := @okN_iff x n a b d
  rw [Bool.eq_iff_iff, e1, e2]
  exact ⟨fun ⟨hd, h⟩ => ⟨hd, by omega⟩, fun ⟨hd, h⟩ => ⟨hd, by omega⟩⟩
theorem lA_turn {x n a b d : Int} (h : dep d = true) : lA (p2 d - 1 - x) (p2 d - 1 - n) (p2 d - 1 - a) (p2 d - 1 - b) d = -lA x n a b d := by
  unfold lA
  rw [okN_turn h, show p2 d - 1 - b - (p2 d - 1 - n) = -(b - n) by omega, lvl_neg]
  split <;> omega
theorem lB_turn {x n a b d : Int} (h : dep d = true) : lB (p2 d - 1 - x) (p2 d - 1 - n) (p2 d - 1 - a) (p2 d - 1 - b) d = -lB x n a b d := by
  unfold lB
  rw [okN_turn h, show p2 d - 1 - n - (p2 d - 1 - a) = -(n - a) by omega, lvl_neg]
  split <;> omega
theorem lC_turn {x n a b d : Int} (h : dep d = true) : lC (p2 d - 1 - x) (p2 d - 1 - n) (p2 d - 1 - a) (p2 d - 1 - b) d = -lC x n a b d := by
  unfold lC
  rw [okN_turn h, show p2 d - 1 - a - (p2 d - 1 - x) = -(a - x) by omega, lvl_neg]
  split <;> omega
theorem ctx_turn {x n a b d : Int} (h : dep d = true) : ctxI (p2 d - 1 - x) (p2 d - 1 - n) (p2 d - 1 - a) (p2 d - 1 - b) d = -ctxI x n a b d := by
  unfold ctxI
  rw [lA_turn h, lB_turn h, lC_turn h]; omega
theorem cls_turn {x n a b d : Int} (h : dep d = true) : clsI (p2 d - 1 - x) (p2 d - 1 - n) (p2 d - 1 - a) (p2 d - 1 - b) d = clsI x n a b d := by
  unfold clsI
  rw [lA_turn h, lB_turn h, lC_turn h, far_neg, far_neg, far_neg]
theorem ctx_bd (x n a b d : Int) : -364 ≤ ctxI x n a b d ∧ ctxI x n a b d ≤ 364 := by
  have h1 := lA_bd x n a b d
  have h2 := lB_bd x n a b d
  have h3 := lC_bd x n a b d
  unfold ctxI; omega

set_option maxHeartbeats 4000000 in
theorem mturned_law {w : World} (f0 f1 f2 f3 dp : Int) :
    Calls Try.prog 4 [.agg #[.int .i64 f0, .int .i64 f1, .int .i64 f2, .int .i64 f3], .int .i64 dp].toArray w (Ret fun r w' => r = .bool true ∧ Mod none' w w') := by
  refine F_sound c4 (by simp [fc4]) ?_
  simp [fc4, s4]
  refine box_h (.agg #[.int .i64 f0, .int .i64 f1, .int .i64 f2, .int .i64 f3]) (Hp.nil w) (by simp) ?_
  intro t4 w0 H M0
  refine ⟨.inl rfl, ?_⟩
  replace H : Hp w w0 [.blk t4 #[.int .i64 f0, .int .i64 f1, .int .i64 f2, .int .i64 f3]] := H
  simp
  refine callp (within_c dp 1 16 (by omega) (by omega) (by omega)) (by simp) ?_
  have hd0 := with_bd (n := dp) (lo := 1) (hi := 16) (by omega)
  have hdp : dep (withI dp 1 16) = true := dep_iff.2 hd0
  generalize withI dp 1 16 = d at *
  have hp := p2_bd hd0.2
  have hs := shl_p2 (d := d) (by omega) (by omega)
  have wd : IntKind.u64.wrap d = d := wU (by omega) (by omega)
  have w1 : IntKind.i64.wrap (p2 d - 1) = p2 d - 1 := wI (by omega) (by omega)
  obtain ⟨c0, c1, c2, c3⟩ := blk4 (H.blk 0 rfl)
  replace H := H.drew
  simp [wd, hs, w1, c0, c1, c2, c3]
  refine ⟨by omega, ?_⟩
  refine call_r _ (wrap2_c f0 d) (by simp) ?_
  rintro r _ ⟨rfl, rfl⟩
  refine ⟨by simp [promOk, SameCells], ?_⟩
  refine call_r _ (wrap2_c f1 d) (by simp) ?_
  rintro r _ ⟨rfl, rfl⟩
  refine ⟨by simp [promOk, SameCells], ?_⟩
  refine call_r _ (wrap2_c f2 d) (by simp) ?_
  rintro r _ ⟨rfl, rfl⟩
  refine ⟨by simp [promOk, SameCells], ?_⟩
  refine callp (wrap2_c f3 d) (by simp) ?_
  have b0 := wrap_bd f0 hdp
  have b1 := wrap_bd f1 hdp
  have b2 := wrap_bd f2 hdp
  have b3 := wrap_bd f3 hdp
  generalize wrapI f0 d = x at *
  generalize wrapI f1 d = n at *
  generalize wrapI f2 d = a at *
  generalize wrapI f3 d = b at *
  have y0 : IntKind.i64.wrap (p2 d - 1 - x) = p2 d - 1 - x := wI (by omega) (by omega)
  have y1 : IntKind.i64.wrap (p2 d - 1 - n) = p2 d - 1 - n := wI (by omega) (by omega)
  have y2 : IntKind.i64.wrap (p2 d - 1 - a) = p2 d - 1 - a := wI (by omega) (by omega)
  have y3 : IntKind.i64.wrap (p2 d - 1 - b) = p2 d - 1 - b := wI (by omega) (by omega)
  simp
  refine callm (ctx_c x n a b d) (by simp (disch := omega) [wI, wU, tmod_nn, tdiv_nn, env0_0, env0_1, env0_2, env0_3, env0_4, env0_5, -env0_apply]) ?_
  intro w' M'
  replace H := H.same M'
  simp [ctxV, y0, y1, y2, y3]
  refine callm (ctx_c (p2 d - 1 - x) (p2 d - 1 - n) (p2 d - 1 - a) (p2 d - 1 - b) d) (by simp (disch := omega) [wI, wU, tmod_nn, tdiv_nn, env0_0, env0_1, env0_2, env0_3, env0_4, env0_5, -env0_apply, y0, y1, y2, y3]) ?_
  intro w' M'
  replace H := H.same M'
  rw [ctxV, ctx_turn hdp, far_neg]
  have hcb := ctx_bd x n a b d
  generalize ctxI x n a b d = c at *
  have hz : (c = 0 ∧ farI c = 0) ∨ (c < 0 ∧ 0 < farI c ∧ farI c < 365) ∨ (0 < c ∧ 0 < farI c ∧ farI c < 365) := by unfold farI; split <;> omega
  generalize farI c = u at *
  rcases hz with ⟨rfl, rfl⟩ | ⟨h1, h2, h3⟩ | ⟨h1, h2, h3⟩
  · simp
    refine ifg_r (t := true) (by simp) (fun _ => ?_) (fun h => (h rfl).elim)
    refine callm (cls_c x n a b d) (by simp (disch := omega) [wI, wU, tmod_nn, tdiv_nn, env0_0, env0_1, env0_2, env0_3, env0_4, env0_5, -env0_apply]) ?_
    intro w' M'
    replace H := H.same M'
    simp [y0, y1, y2, y3]
    refine ifg_r (t := true) (by simp) (fun _ => ?_) (fun h => (h rfl).elim)
    refine callm (cls_c (p2 d - 1 - x) (p2 d - 1 - n) (p2 d - 1 - a) (p2 d - 1 - b) d) (by simp (disch := omega) [wI, wU, tmod_nn, tdiv_nn, env0_0, env0_1, env0_2, env0_3, env0_4, env0_5, -env0_apply, y0, y1, y2, y3]) ?_
    intro w' M'
    replace H := H.same M'
    rw [cls_turn hdp]
    simp
    refine ifg_r (t := true) (by simp) (fun _ => ?_) (fun h => (h rfl).elim)
    refine callm (known_c) (by simp (disch := omega) [wI, wU, tmod_nn, tdiv_nn, env0_0, env0_1, env0_2, env0_3, env0_4, env0_5, -env0_apply]) ?_
    intro w' M'
    replace H := H.same M'
    simp
    exact H.mod
  · have h4 : ¬ u = 0 := by omega
    have h5 : ¬ 0 < c := by omega
    simp [h1, h2, h3, h4, h5]
    refine ifg_r (t := true) (by simp) (fun _ => ?_) (fun h => (h rfl).elim)
    refine callm (cls_c x n a b d) (by simp (disch := omega) [wI, wU, tmod_nn, tdiv_nn, env0_0, env0_1, env0_2, env0_3, env0_4, env0_5, -env0_apply]) ?_
    intro w' M'
    replace H := H.same M'
    simp [y0, y1, y2, y3]
    refine ifg_r (t := true) (by simp) (fun _ => ?_) (fun h => (h rfl).elim)
    refine callm (cls_c (p2 d - 1 - x) (p2 d - 1 - n) (p2 d - 1 - a) (p2 d - 1 - b) d) (by simp (disch := omega) [wI, wU, tmod_nn, tdiv_nn, env0_0, env0_1, env0_2, env0_3, env0_4, env0_5, -env0_apply, y0, y1, y2, y3]) ?_
    intro w' M'
    replace H := H.same M'
    rw [cls_turn hdp]
    simp
    refine ifg_r (t := true) (by simp) (fun _ => ?_) (fun h => (h rfl).elim)
    refine callm (known_c) (by simp (disch := omega) [wI, wU, tmod_nn, tdiv_nn, env0_0, env0_1, env0_2, env0_3, env0_4, env0_5, -env0_apply]) ?_
    intro w' M'
    replace H := H.same M'
    simp
    exact H.mod
  · have h4 : ¬ u = 0 := by omega
    have h5 : ¬ c < 0 := by omega
    simp [h1, h2, h3, h4, h5]
    refine ifg_r (t := true) (by simp) (fun _ => ?_) (fun h => (h rfl).elim)
    refine callm (cls_c x n a b d) (by simp (disch := omega) [wI, wU, tmod_nn, tdiv_nn, env0_0, env0_1, env0_2, env0_3, env0_4, env0_5, -env0_apply]) ?_
    intro w' M'
    replace H := H.same M'
    simp [y0, y1, y2, y3]
    refine ifg_r (t := true) (by simp) (fun _ => ?_) (fun h => (h rfl).elim)
    refine callm (cls_c (p2 d - 1 - x) (p2 d - 1 - n) (p2 d - 1 - a) (p2 d - 1 - b) d) (by simp (disch := omega) [wI, wU, tmod_nn, tdiv_nn, env0_0, env0_1, env0_2, env0_3, env0_4, env0_5, -env0_apply, y0, y1, y2, y3]) ?_
    intro w' M'
    replace H := H.same M'
    rw [cls_turn hdp]
    simp
    refine ifg_r (t := true) (by simp) (fun _ => ?_) (fun h => (h rfl).elim)
    refine callm (known_c) (by simp (disch := omega) [wI, wU, tmod_nn, tdiv_nn, env0_0, env0_1, env0_2, env0_3, env0_4, env0_5, -env0_apply]) ?_
    intro w' M'
    replace H := H.same M'
    simp
    exact H.mod

end Go.Proofs.Ytcljnpodfhgjkaa.VG
