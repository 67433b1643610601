/-
  Scan: what is known.
-/
import Derived.Test.YtbncppklmhfnmaaNm
namespace Go.Proofs.Ytbncppklmhfnmaa.VG
open Go
set_option linter.unusedSimpArgs false
set_option linter.unusedVariables false
set_option maxRecDepth 20000

theorem dig41 : ∀ a, a < 64 → ∀ b, b < 64 → (decide (a * 64 + b < 16) || !(inP 4 1 (a * 64 + b))) = true := by decide +kernel
theorem dig_known (M : Nat) (hM : M = 4096) : digL 4 1 M = [0, 1, 2, 3] := by
  have h : digL 4 1 M = digL 4 1 16 := pik_skip (by omega) fun i h1 h2 => by
    have := dig41 (i / 64) (by omega) (i % 64) (by omega)
    rw [show i / 64 * 64 + i % 64 = i by omega] at this
    simp only [Bool.or_eq_true, decide_eq_true_eq, Bool.not_eq_true'] at this
    rcases this with h | h
    · omega
    · exact h
  rw [h]
  decide
theorem ord1 (M : Nat) : orderI 2 2 1 M = [0, 2, 1, 3] := by
  have : orderI 2 2 1 M = mapTo (colAt 2 2) 4 := rfl
  rw [this]; decide
theorem ord2 (M : Nat) : orderI 2 2 2 M = [0, 1, 3, 2] := by
  have : orderI 2 2 2 M = mapTo (rowAt 2 true) 4 := rfl
  rw [this]; decide
theorem ord3 (M : Nat) : orderI 3 2 3 M = [0, 3, 1, 4, 2, 5] := by
  have : orderI 3 2 3 M = diagL 3 2 4 := rfl
  rw [this]; decide
theorem ord4 (M : Nat) (hM : M = 4096) : orderI 4 1 4 M = [0, 1, 2, 3] := dig_known M hM
theorem tk1 : takeR [5, 6, 7] [2, 0, 1] = ([7, 5, 6], true) := by
  have h : okB [2, 0, 1] 3 = true := okB_iff.2 (by unfold okP; decide)
  have : takeL [5, 6, 7] [2, 0, 1] 3 = [7, 5, 6] := by decide
  simp [takeR, h, this]
theorem tk2 : takeR [5, 6] [1, 1] = ([], false) := by
  have h : okB [1, 1] 2 = false := okB_no (by unfold okP; decide)
  simp [takeR, h]

set_option maxHeartbeats 4000000 in
theorem sknown_c {w : World} : Calls Try.prog 15 [].toArray w (Ret fun r w' => r = .bool true ∧ Mod none' w w') := by
  refine F_sound c15 (by simp [fc15]) ?_
  obtain ⟨M, hM⟩ : ∃ M : Nat, M = 4096 := ⟨_, rfl⟩
  simp [fc15, s15]
  refine bs_h slTI (([5, 6, 7] : List Int).map fun n => .int .i64 n) (Hp.nil w) rfl (by decide) (by simp) (by simp [Value.cells]) ?_
  intro v1 w1 H M1
  rw [flat_ints] at H
  refine ⟨.inl rfl, ?_⟩
  refine bs_h slTI (([2, 0, 1] : List Int).map fun n => .int .i64 n) H rfl (by decide) (by simp) (by simp [Value.cells]) ?_
  intro v2 w2 H M2
  rw [flat_ints] at H
  refine ⟨.inl rfl, ?_⟩
  refine call_h (take_c (l := [5, 6, 7]) (o := [2, 0, 1]) (H.rd 0 rfl) (H.rd 1 rfl) (by decide) (by decide)) (by simp) ?_
  rw [tk1]
  rintro r w3 ⟨u, rfl, HR⟩
  replace H := (Hp.ofMod H.mod).join HR
  clear HR
  simp
  have H0 := H
  refine bs_h slTI (([5, 6] : List Int).map fun n => .int .i64 n) H rfl (by decide) (by simp) (by simp [Value.cells]) ?_
  intro v3 w4 H M4
  rw [flat_ints] at H
  refine ⟨.inl rfl, ?_⟩
  refine bs_h slTI (([1, 1] : List Int).map fun n => .int .i64 n) H rfl (by decide) (by simp) (by simp [Value.cells]) ?_
  intro v4 w5 H M5
  rw [flat_ints] at H
  refine ⟨.inl rfl, ?_⟩
  refine call_h (take_c (l := [5, 6]) (o := [1, 1]) (H.rd 1 rfl) (H.rd 2 rfl) (by decide) (by decide)) (by simp) ?_
  rw [tk2]
  rintro r w6 ⟨u2, rfl, HR⟩
  replace H := H.same HR.mod
  clear HR
  replace H : Hp w w6 [.own 3 1 u 3 (intsV [7, 5, 6])] := (H.drop 2).drop 1
  simp
  refine call_h (order_c 2 2 1 M hM) (by simp) ?_
  rw [ord1]
  intro r1 w7 HR
  replace H := H.join HR
  clear HR
  replace H : Hp w w7 [.own 3 1 u 3 (intsV [7, 5, 6]), .own 3 1 r1 4 (intsV [0, 2, 1, 3])] := H
  simp
  refine bs_h slTI (([0, 2, 1, 3] : List Int).map fun n => .int .i64 n) H rfl (by decide) (by simp) (by simp [Value.cells]) ?_
  intro v5 w8 H M8
  rw [flat_ints] at H
  refine ⟨.inl rfl, ?_⟩
  refine callm (ints_c (l := [0, 2, 1, 3]) (m := [0, 2, 1, 3]) (H.rd 1 rfl) (H.rd 2 rfl) (by unfold maxLen; decide)) (by simp (disch := omega) [wI, wU, tmod_nn, tdiv_nn, env0_0, env0_1, env0_2, env0_3, env0_4, env0_5, -env0_apply]) ?_
  intro w' M'
  replace H := H.same M'
  simp
  replace H := (H.drop 2).drop 1
  refine ifg_r (t := true) (by simp) (fun _ => ?_) (fun h => (h rfl).elim)
  refine call_h (order_c 2 2 2 M hM) (by simp) ?_
  rw [ord2]
  intro r1 w9 HR
  replace H := H.join HR
  clear HR
  replace H : Hp w w9 [.own 3 1 u 3 (intsV [7, 5, 6]), .own 3 1 r1 4 (intsV [0, 1, 3, 2])] := H
  simp
  refine ifg_r (t := true) (by simp) (fun _ => ?_) (fun h => (h rfl).elim)
  refine bs_h slTI (([0, 1, 3, 2] : List Int).map fun n => .int .i64 n) H rfl (by decide) (by simp) (by simp [Value.cells]) ?_
  intro v5 w10 H M10
  rw [flat_ints] at H
  refine ⟨.inl rfl, ?_⟩
  simp
  refine ifg_r (t := true) (by simp) (fun _ => ?_) (fun h => (h rfl).elim)
  refine callm (ints_c (l := [0, 1, 3, 2]) (m := [0, 1, 3, 2]) (H.rd 1 rfl) (H.rd 2 rfl) (by unfold maxLen; decide)) (by simp (disch := omega) [wI, wU, tmod_nn, tdiv_nn, env0_0, env0_1, env0_2, env0_3, env0_4, env0_5, -env0_apply]) ?_
  intro w' M'
  replace H := H.same M'
  simp
  replace H := (H.drop 2).drop 1
  refine ifg_r (t := true) (by simp) (fun _ => ?_) (fun h => (h rfl).elim)
  refine call_h (order_c 3 2 3 M hM) (by simp) ?_
  rw [ord3]
  intro r1 w11 HR
  replace H := H.join HR
  clear HR
  replace H : Hp w w11 [.own 3 1 u 3 (intsV [7, 5, 6]), .own 3 1 r1 6 (intsV [0, 3, 1, 4, 2, 5])] := H
  simp
  refine ifg_r (t := true) (by simp) (fun _ => ?_) (fun h => (h rfl).elim)
  refine bs_h slTI (([0, 3, 1, 4, 2, 5] : List Int).map fun n => .int .i64 n) H rfl (by decide) (by simp) (by simp [Value.cells]) ?_
  intro v5 w12 H M12
  rw [flat_ints] at H
  refine ⟨.inl rfl, ?_⟩
  simp
  refine ifg_r (t := true) (by simp) (fun _ => ?_) (fun h => (h rfl).elim)
  refine callm (ints_c (l := [0, 3, 1, 4, 2, 5]) (m := [0, 3, 1, 4, 2, 5]) (H.rd 1 rfl) (H.rd 2 rfl) (by unfold maxLen; decide)) (by simp (disch := omega) [wI, wU, tmod_nn, tdiv_nn, env0_0, env0_1, env0_2, env0_3, env0_4, env0_5, -env0_apply]) ?_
  intro w' M'
  replace H := H.same M'
  simp
  replace H := (H.drop 2).drop 1
  refine ifg_r (t := true) (by simp) (fun _ => ?_) (fun h => (h rfl).elim)
  refine call_h (order_c 4 1 4 M hM) (by simp) ?_
  rw [ord4 M hM]
  intro r1 w13 HR
  replace H := H.join HR
  clear HR
  replace H : Hp w w13 [.own 3 1 u 3 (intsV [7, 5, 6]), .own 3 1 r1 4 (intsV [0, 1, 2, 3])] := H
  simp
  refine ifg_r (t := true) (by simp) (fun _ => ?_) (fun h => (h rfl).elim)
  refine bs_h slTI (([0, 1, 2, 3] : List Int).map fun n => .int .i64 n) H rfl (by decide) (by simp) (by simp [Value.cells]) ?_
  intro v5 w14 H M14
  rw [flat_ints] at H
  refine ⟨.inl rfl, ?_⟩
  simp
  refine ifg_r (t := true) (by simp) (fun _ => ?_) (fun h => (h rfl).elim)
  refine callm (ints_c (l := [0, 1, 2, 3]) (m := [0, 1, 2, 3]) (H.rd 1 rfl) (H.rd 2 rfl) (by unfold maxLen; decide)) (by simp (disch := omega) [wI, wU, tmod_nn, tdiv_nn, env0_0, env0_1, env0_2, env0_3, env0_4, env0_5, -env0_apply]) ?_
  intro w' M'
  replace H := H.same M'
  simp
  replace H := (H.drop 2).drop 1
  refine ifg_r (t := true) (by simp) (fun _ => ?_) (fun h => (h rfl).elim)
  refine bs_h slTI (([7, 5, 6] : List Int).map fun n => .int .i64 n) H rfl (by decide) (by simp) (by simp [Value.cells]) ?_
  intro v5 w15 H M15
  rw [flat_ints] at H
  refine ⟨.inl rfl, ?_⟩
  simp
  refine ifg_r (t := true) (by simp) (fun _ => ?_) (fun h => (h rfl).elim)
  refine callm (ints_c (l := [7, 5, 6]) (m := [7, 5, 6]) (H.rd 0 rfl) (H.rd 1 rfl) (by unfold maxLen; decide)) (by simp (disch := omega) [wI, wU, tmod_nn, tdiv_nn, env0_0, env0_1, env0_2, env0_3, env0_4, env0_5, -env0_apply]) ?_
  intro w' M'
  replace H := H.same M'
  simp
  refine ifg_r (t := true) (by simp) (fun _ => ?_) (fun h => (h rfl).elim)
  refine call_h (passes_c 0 1) (by simp) ?_
  intro r1 w16 HR
  have e : passRI 0 1 = [] := by rfl
  rw [e] at HR
  obtain ⟨vs, hv, h0, _⟩ := HR.rd.ex
  obtain ⟨pS, pL⟩ := h0.sl
  simp [pS, pL]
  exact H.mod.tr HR.mod

end Go.Proofs.Ytbncppklmhfnmaa.VG
