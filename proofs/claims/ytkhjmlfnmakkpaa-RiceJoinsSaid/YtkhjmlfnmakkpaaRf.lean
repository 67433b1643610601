/-
  Rice: two known residuals; the laws of folding, of costs, of the best parameter.
-/
import Derived.Test.YtkhjmlfnmakkpaaRe
import Derived.Test.YtkhjmlfnmakkpaaBw
namespace Go.Proofs.Ytkhjmlfnmakkpaa.VG
open Go
set_option linter.unusedSimpArgs false
set_option linter.unusedVariables false

set_option maxHeartbeats 1000000 in
theorem rknown_c {w : World} : Calls Try.prog 11 [].toArray w (Ret fun r w' => r = .bool true ∧ Mod none' w w') := by
  refine F_sound c11 (by simp [fc11]) ?_
  simp [fc11, s11]
  refine wrbox_h (Hp.nil w) (by simp) ?_
  intro b w1 H M1
  refine ⟨.inl rfl, ?_⟩
  simp
  refine bs_h slTI (([-3, 0] : List Int).map fun n => .int .i64 n) H rfl (by decide) (by simp) (by simp [Value.cells]) ?_
  intro v w2 H M2
  rw [flat_ints] at H
  refine ⟨.inl rfl, ?_⟩
  simp
  obtain ⟨F, hW, hF, up, rd⟩ := H.wr 0 rfl
  obtain ⟨G, hR, hd⟩ := rd 1 _ _ _ _ _ (by decide) rfl
  refine call_h (rput_yes hW (l := [-3, 0]) hR hd (by decide) (by decide) 2 (by decide) (by decide)) (by simp) ?_
  rintro r w3 ⟨rfl, A⟩
  replace H := up _ _ A
  rw [show [] ++ riceBs 2 [-3, 0] = [false, true, false, true, true, false, false] by decide] at H
  simp
  obtain ⟨F, hW, hF, up, rd⟩ := H.wr 0 rfl
  refine call_h (bytes_c hW (by decide)) (by simp) ?_
  intro vb w4 A
  replace H := H.newBytes A
  rw [show packB [false, true, false, true, true, false, false] = [88] by decide] at H
  have hb := H.rd 2 rfl
  simp
  refine call_h (new_c (l := [88]) hb (by decide) (by decide)) (by simp) ?_
  rintro r w5 ⟨c, G, rfl, hR, M5, hG⟩
  replace H := H.newRr hR M5 hG
  simp
  refine ite_r (t := false) (by simp) (fun h => by cases h) (fun _ => ?_)
  simp
  obtain ⟨F, hR, up⟩ := H.rrRow 3 rfl
  refine call_h (rget_c hR 2 2) (by simp) ?_
  rw [show getS [88] 0 0 2 2 = (([-3, 0], 0), 7, 0) by decide]
  rintro r w6 ⟨⟨u, rfl, hu1, hu2⟩, A⟩
  replace H := up _ _ _ _ _ _ A hu1 hu2
  simp
  obtain ⟨F, hW, hF, _, rd⟩ := H.wr 0 rfl
  refine ifg_r (t := true) (by simp) (fun _ => ?_) (fun h => (h rfl).elim)
  refine callp (len_c hW) (by simp) ?_
  simp
  refine ifg_r (t := true) (by simp) (fun _ => ?_) (fun h => (h rfl).elim)
  refine call_h (bytes_c hW (by decide)) (by simp) ?_
  intro vc w7 A
  replace H := H.newBytes A
  rw [show packB [false, true, false, true, true, false, false] = [88] by decide] at H
  simp
  refine ifg_r (t := true) (by simp) (fun _ => ?_) (fun h => (h rfl).elim)
  have hb := H.rd 5 rfl
  refine str_r (e := 5) (l := [88]) (by kernel_rfl) (by kernel_rfl) (by kernel_rfl) (by simpa [bytesV] using hb) (by simp) ⟨by simp, ?_⟩
  simp
  refine ifg_r (t := true) (by simp) (fun _ => ?_) (fun h => (h rfl).elim)
  refine bs_h slTI (([-3, 0] : List Int).map fun n => .int .i64 n) H rfl (by decide) (by simp) (by simp [Value.cells]) ?_
  intro v w8 H M8
  rw [flat_ints] at H
  refine ⟨.inl rfl, ?_⟩
  simp
  refine ifg_r (t := true) (by simp) (fun _ => ?_) (fun h => (h rfl).elim)
  refine callm (sameInts_c (l := [-3, 0]) (m := [-3, 0]) (H.rd 4 rfl) (H.rd 6 rfl) (by unfold maxLen; decide)) (by simp (disch := omega) [wI, wU, tmod_nn, tdiv_nn, env0_0, env0_1, env0_2, env0_3, env0_4, env0_5, -env0_apply]) ?_
  intro w' M'
  replace H := H.same M'
  simp
  refine ifg_r (t := true) (by simp) (fun _ => ?_) (fun h => (h rfl).elim)
  refine callp (fold_c (-3)) (by simp) ?_
  rw [show foldN (-3) = 5 by decide]
  simp
  refine ifg_r (t := true) (by simp) (fun _ => ?_) (fun h => (h rfl).elim)
  refine callp (cost_c 0 1073741823) (by simp) ?_
  rw [show costI 0 1073741823 = 65 by decide]
  simp
  exact H.mod

theorem fold_inj {a b : Int} (ha : wideB a = true) (hb : wideB b = true) : foldN a = foldN b ↔ a = b :=
  ⟨fun h => by rw [← unf_fold ha, ← unf_fold hb, h], fun h => by rw [h]⟩
theorem fold_near {a b : Int} (ha : wideB a = true) (hb : wideB b = true) (h : max a (-1 - a) < max b (-1 - b)) : foldN a < foldN b := by
  have a1 : 0 ≤ a → (foldN a : Int) = 2 * a := fun h => foldN_pos ha h
  have a2 : ¬ 0 ≤ a → (foldN a : Int) = -2 * a - 1 := fun h => foldN_neg ha h
  have b1 : 0 ≤ b → (foldN b : Int) = 2 * b := fun h => foldN_pos hb h
  have b2 : ¬ 0 ≤ b → (foldN b : Int) = -2 * b - 1 := fun h => foldN_neg hb h
  omega
theorem cost_rise {k a b : Int} (hk : paramB k = true) (ha : wideB a = true) (hb : wideB b = true) (h : foldN a ≤ foldN b) : costI k a ≤ costI k b := by
  have hk' := paramB_iff.1 hk
  have hq : quoN k a ≤ quoN k b := Nat.div_le_div_right h
  simp only [costI, hk, ha, hb, Bool.and_self, if_true]
  split <;> split <;> omega
theorem cost_one {k a : Int} (hk : paramB k = true) (ha : wideB a = true) : 1 ≤ costI k a ∧ costI k a ≤ 65 := by
  have hk' := paramB_iff.1 hk
  simp only [costI, hk, ha, Bool.and_self, if_true]
  split <;> omega

theorem folds_c {w : World} (a b : Int) : Calls Try.prog 4 [.int .i64 a, .int .i64 b].toArray w (Ret fun r w' => r = .bool true ∧ Mod none' w w') := by
  refine F_sound c4 (by simp [fc4]) ?_
  simp [fc4, s4]
  refine callm rknown_c (by simp) ?_
  intro w1 M1
  simp
  refine ite_r (t := false) (by simp) (fun h => by cases h) (fun _ => ?_)
  simp
  refine callp (wide2_c a) (by simp) ?_
  by_cases ha : wideB a = true
  · simp [ha]
    refine ifg_r (t := false) (by simp) (fun _ => ?_) (fun h => (h rfl).elim)
    refine callp (wide2_c b) (by simp) ?_
    by_cases hb : wideB b = true
    · simp [hb]
      refine ite_r (t := false) (by simp) (fun h => by cases h) (fun _ => ?_)
      simp
      refine callp (fold_c a) (by simp) ?_
      refine callp (fold_c b) (by simp) ?_
      simp
      have h1 := foldN_lt a
      refine callp (unfold_c (foldN a) (by omega)) (by simp) ?_
      rw [unf_fold ha]
      have hi := fold_inj ha hb
      have hn := fold_near ha hb
      have wa := wideB_iff.1 ha
      have wb := wideB_iff.1 hb
      have hw1 : IntKind.i64.wrap (-1 - a) = -1 - a := wI (by omega) (by omega)
      have hw2 : IntKind.i64.wrap (-1 - b) = -1 - b := wI (by omega) (by omega)
      simp [hw1, hw2]
      refine ite_r (t := false) ?_ (fun h => by cases h) (fun _ => ?_)
      · by_cases e : a = b
        · subst e; simp; omega
        · have hne : foldN a ≠ foldN b := fun h => e (hi.1 h)
          have hne2 : ¬ (foldN a : Int) = foldN b := by omega
          have e1 : ((foldN a : Int) == (foldN b : Int)) = false := by simpa using hne2
          have e2 : (a == b) = false := by simpa using e
          simp [e1, e2]; omega
      simp [hw1, hw2]
      refine ⟨?_, M1⟩
      omega
    · simp [hb]
      refine ite_r (t := true) (by simp) (fun _ => ?_) (fun h => by cases h)
      simp
      exact M1
  · simp [ha]
    refine ifg_r (t := true) (by simp) (fun h => by cases h) (fun _ => ?_)
    simp
    refine ite_r (t := true) (by simp) (fun _ => ?_) (fun h => by cases h)
    simp
    exact M1

end Go.Proofs.Ytkhjmlfnmakkpaa.VG
