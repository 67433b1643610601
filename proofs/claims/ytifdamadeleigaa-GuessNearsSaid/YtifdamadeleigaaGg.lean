/-
  Guesses: the laws.
-/
import Derived.Test.YtifdamadeleigaaGf
namespace Go.Proofs.Ytifdamadeleigaa.VG
open Go
set_option linter.unusedSimpArgs false
set_option linter.unusedVariables false

set_option maxRecDepth 10000 in
theorem gk1 : foreS [1, 2, 3, 4] 2 2 4 [1, 2] = ([1, 1, 2, 2], 0) := by decide
set_option maxRecDepth 10000 in
theorem gk2 : nearI [1, 2, 3] 2 1 1 = (3, 2, 1, 2) := by decide
set_option maxRecDepth 10000 in
theorem gk3 : oneI 7 3 2 1 2 4 = 3 ∧ oneI 8 15 15 0 0 4 = 15 ∧ wtI [15, 1] 4 = 2 := by decide

set_option maxHeartbeats 2000000 in
theorem gknown_c {w : World} : Calls Try.prog 17 [].toArray w (Ret fun r w' => r = .bool true ∧ Mod none' w w') := by
  refine F_sound c17 (by simp [fc17]) ?_
  simp [fc17, s17]
  refine bs_h slTI (([1, 2, 3, 4] : List Int).map fun n => .int .i64 n) (Hp.nil w) rfl (by decide) (by simp) (by simp [Value.cells]) ?_
  intro v1 w1 H M1
  rw [flat_ints] at H
  refine ⟨.inl rfl, ?_⟩
  refine bs_h slTI (([1, 2] : List Int).map fun n => .int .i64 n) H rfl (by decide) (by simp) (by simp [Value.cells]) ?_
  intro v2 w2 H M2
  rw [flat_ints] at H
  refine ⟨.inl rfl, ?_⟩
  refine call_h (fore_c (l := [1, 2, 3, 4]) (ks := [1, 2]) 2 2 4 (H.rd 0 rfl) (H.rd 1 rfl) (by decide) (by decide)) (by simp) ?_
  rw [gk1]
  rintro r w3 ⟨u, rfl, HR⟩
  replace H := H.join HR
  simp
  refine bs_h slTI (([1, 2, 3] : List Int).map fun n => .int .i64 n) H rfl (by decide) (by simp) (by simp [Value.cells]) ?_
  intro v3 w4 H M4
  rw [flat_ints] at H
  refine ⟨.inl rfl, ?_⟩
  refine callm (near_c (l := [1, 2, 3]) 2 1 1 (H.rd 3 rfl)) (by simp (disch := omega) [wI, wU, tmod_nn, tdiv_nn, env0_0, env0_1, env0_2, env0_3, env0_4, env0_5, -env0_apply]) ?_
  intro w' M'
  replace H := H.same M'
  rw [gk2]
  simp [tup4]
  refine ifg_r (t := true) (by simp) (fun _ => ?_) (fun h => (h rfl).elim)
  refine bs_h slTI (([1, 1, 2, 2] : List Int).map fun n => .int .i64 n) H rfl (by decide) (by simp) (by simp [Value.cells]) ?_
  intro v4 w5 H M5
  rw [flat_ints] at H
  refine ⟨.inl rfl, ?_⟩
  simp
  refine ifg_r (t := true) (by simp) (fun _ => ?_) (fun h => (h rfl).elim)
  refine callm (ints_c (l := [1, 1, 2, 2]) (m := [1, 1, 2, 2]) (H.rd 2 rfl) (H.rd 4 rfl) (by unfold maxLen; decide)) (by simp (disch := omega) [wI, wU, tmod_nn, tdiv_nn, env0_0, env0_1, env0_2, env0_3, env0_4, env0_5, -env0_apply]) ?_
  intro w' M'
  replace H := H.same M'
  simp
  refine ifg_r (t := true) (by simp) (fun _ => ?_) (fun h => (h rfl).elim)
  refine callm (one_c' 7 3 2 1 2 4) (by simp (disch := omega) [wI, wU, tmod_nn, tdiv_nn, env0_0, env0_1, env0_2, env0_3, env0_4, env0_5, -env0_apply]) ?_
  intro w' M'
  replace H := H.same M'
  rw [gk3.1]
  simp
  refine ifg_r (t := true) (by simp) (fun _ => ?_) (fun h => (h rfl).elim)
  refine callm (one_c' 8 15 15 0 0 4) (by simp (disch := omega) [wI, wU, tmod_nn, tdiv_nn, env0_0, env0_1, env0_2, env0_3, env0_4, env0_5, -env0_apply]) ?_
  intro w' M'
  replace H := H.same M'
  rw [gk3.2.1]
  simp
  refine ifg_r (t := true) (by simp) (fun _ => ?_) (fun h => (h rfl).elim)
  refine bs_h slTI (([15, 1] : List Int).map fun n => .int .i64 n) H rfl (by decide) (by simp) (by simp [Value.cells]) ?_
  intro v5 w6 H M6
  rw [flat_ints] at H
  refine ⟨.inl rfl, ?_⟩
  simp
  refine ifg_r (t := true) (by simp) (fun _ => ?_) (fun h => (h rfl).elim)
  refine callp (weight_c (l := [15, 1]) 4 (H.rd 5 rfl) (by decide)) (by simp) ?_
  rw [gk3.2.2]
  simp
  exact H.mod

theorem one_same {k v d : Int} (hk : 1 ≤ k ∧ k ≤ 9) (hd : dep d = true) (hv : 0 ≤ v ∧ v < p2 d) : oneI k v v v v d = v := by
  rw [oneI, if_pos ⟨by omega, hd, all4.2 ⟨hv, hv, hv, hv⟩⟩]
  have h3 := near3_is (v + v - v) v v v
  have m1 := mn_is v v
  have m2 := mx_is v v
  have m3 := mn_is (mxI v v) (v + v - v)
  have m4 := mx_is (mnI v v) (mnI (mxI v v) (v + v - v))
  have m5 := mx_is (v + v - v) 0
  have m6 := mn_is (mxI (v + v - v) 0) (p2 d - 1)
  generalize near3 (v + v - v) v v v = r3 at *
  generalize mxI (mnI v v) (mnI (mxI v v) (v + v - v)) = r7 at *
  generalize mnI (mxI (v + v - v) 0) (p2 d - 1) = r8 at *
  by_cases k1 : k = 1
  · rw [if_pos k1]
  rw [if_neg k1]
  by_cases k2 : k = 2
  · rw [if_pos k2]
  rw [if_neg k2]
  by_cases k3 : k = 3
  · rw [if_pos k3]
  rw [if_neg k3]
  by_cases k4 : k = 4
  · rw [if_pos k4]
  rw [if_neg k4]
  by_cases k5 : k = 5
  · rw [if_pos k5]; omega
  rw [if_neg k5]
  by_cases k6 : k = 6
  · rw [if_pos k6]; omega
  rw [if_neg k6]
  by_cases k7 : k = 7
  · rw [if_pos k7]; omega
  rw [if_neg k7]
  by_cases k8 : k = 8
  · rw [if_pos k8]; omega
  rw [if_neg k8]
  by_cases k9 : k = 9
  · rw [if_pos k9]; omega
  omega
theorem one_zero (w n a b d : Int) : oneI 0 w n a b d = 0 := by
  unfold oneI
  split <;> simp

set_option maxHeartbeats 2000000 in
theorem gwithin_law {w : World} (k x n a b d : Int) : Calls Try.prog 4 [.int .i64 k, .int .i64 x, .int .i64 n, .int .i64 a, .int .i64 b, .int .i64 d].toArray w (Ret fun r w' => r = .bool true ∧ Mod none' w w') := by
  refine F_sound c4 (by simp [fc4]) ?_
  simp [fc4, s4]
  refine callp (within_c d 1 16 (by omega) (by omega) (by omega)) (by simp) ?_
  refine callp (within_c k 1 9 (by omega) (by omega) (by omega)) (by simp) ?_
  have hdb := with_bd (n := d) (lo := 1) (hi := 16) (by omega)
  have hkb := with_bd (n := k) (lo := 1) (hi := 9) (by omega)
  generalize withI d 1 16 = D at *
  generalize withI k 1 9 = K at *
  have hd : dep D = true := dep_iff.2 hdb
  have hp := p2_bd (d := D) (by omega)
  have hs := shl_p2 (d := D) (by omega) (by omega)
  have wd : IntKind.u64.wrap D = D := wU (by omega) (by omega)
  have bx := wrap_bd x hd
  have bn := wrap_bd n hd
  have ba := wrap_bd a hd
  have bb := wrap_bd b hd
  simp
  refine callp (wrap2_c x D) (by simp) ?_
  refine callp (wrap2_c n D) (by simp) ?_
  refine callp (wrap2_c a D) (by simp) ?_
  refine callp (wrap2_c b D) (by simp) ?_
  refine callm (one_c' K (wrapI x D) (wrapI n D) (wrapI a D) (wrapI b D) D) (by simp) ?_
  intro w1 M1
  have H := Hp.ofMod M1
  simp
  refine callp (wrap2_c x D) (by simp) ?_
  have h1 := one_in (k := K) hd (all4.2 ⟨bx, bn, ba, bb⟩)
  have h2 := one_same hkb hd bx
  have h3 := one_zero (wrapI x D) (wrapI x D) (wrapI x D) (wrapI x D) D
  generalize oneI K (wrapI x D) (wrapI n D) (wrapI a D) (wrapI b D) D = g at *
  simp [h1, wd, hs, hdb]
  refine ⟨by omega, ?_⟩
  refine ifg_r (t := true) (by simp [h1]) (fun _ => ?_) (fun h => (h rfl).elim)
  refine callm (one_c' K (wrapI x D) (wrapI x D) (wrapI x D) (wrapI x D) D) (by simp (disch := omega) [wI, wU, tmod_nn, tdiv_nn, env0_0, env0_1, env0_2, env0_3, env0_4, env0_5, -env0_apply]) ?_
  intro w' M'
  replace H := H.same M'
  rw [h2]
  simp [h1]
  refine ifg_r (t := true) (by simp [h1]) (fun _ => ?_) (fun h => (h rfl).elim)
  refine callm (one_c' 0 (wrapI x D) (wrapI x D) (wrapI x D) (wrapI x D) D) (by simp (disch := omega) [wI, wU, tmod_nn, tdiv_nn, env0_0, env0_1, env0_2, env0_3, env0_4, env0_5, -env0_apply]) ?_
  intro w' M'
  replace H := H.same M'
  rw [h3]
  simp [h1]
  refine ifg_r (t := true) (by simp [h1]) (fun _ => ?_) (fun h => (h rfl).elim)
  refine callm (gknown_c) (by simp (disch := omega) [wI, wU, tmod_nn, tdiv_nn, env0_0, env0_1, env0_2, env0_3, env0_4, env0_5, -env0_apply]) ?_
  intro w' M'
  replace H := H.same M'
  simp [h1]
  exact H.mod

end Go.Proofs.Ytifdamadeleigaa.VG
