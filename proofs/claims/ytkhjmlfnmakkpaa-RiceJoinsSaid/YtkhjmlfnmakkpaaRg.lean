/-
  Rice: the laws of costs and of the best parameter.
-/
import Derived.Test.YtkhjmlfnmakkpaaRf
import Derived.Test.YtkhjmlfnmakkpaaSi
namespace Go.Proofs.Ytkhjmlfnmakkpaa.VG
open Go
set_option linter.unusedSimpArgs false
set_option linter.unusedVariables false

theorem rises_c {w : World} (k a b : Int) : Calls Try.prog 5 [.int .i64 k, .int .i64 a, .int .i64 b].toArray w (Ret fun r w' => r = .bool true ∧ Mod none' w w') := by
  refine F_sound c5 (by simp [fc5]) ?_
  simp [fc5, s5]
  refine callm rknown_c (by simp) ?_
  intro w1 M1
  simp
  refine ite_r (t := false) (by simp) (fun h => by cases h) (fun _ => ?_)
  simp
  refine callp (wide2_c a) (by simp) ?_
  by_cases ha : wideB a = true
  · simp [ha]
    refine ifg_r (t := false) (by simp) (fun _ => ?_) (fun h => (h rfl).elim)
    refine callp (wide2_c b) (by simp) ?_
    by_cases hb : wideB b = true
    · simp [hb]
      refine ite_r (t := false) (by simp) (fun h => by cases h) (fun _ => ?_)
      obtain ⟨K, hK, hK2⟩ := and_nat k 8 (by omega)
      simp at hK hK2
      simp [hK]
      have hm : ((K : Int)).tmod 26 = (K : Int) % 26 := tmod_nn (by omega)
      rw [hm]
      generalize hk : (K : Int) % 26 = k'
      have hp : paramB k' = true := paramB_iff.2 (by omega)
      refine callp (cost_c k' a) (by simp) ?_
      refine callp (cost_c k' b) (by simp) ?_
      have h1 := cost_one hp ha
      have h2 := cost_one hp hb
      have h3 := @cost_rise k' a b hp ha hb
      have h4 := foldN_lt a
      have h5 := foldN_lt b
      simp
      refine ifg_r (t := true) (by simp; omega) (fun _ => ?_) (fun h => (h rfl).elim)
      refine callp (fold_c a) (by simp) ?_
      simp
      refine ifg_r (t := true) (by simp; omega) (fun _ => ?_) (fun h => (h rfl).elim)
      refine callp (fold_c b) (by simp) ?_
      generalize costI k' a = x at *
      generalize costI k' b = y at *
      simp [show (((1 ≤ x ∧ x ≤ 65) ∧ 1 ≤ y) ∧ y ≤ 65) from ⟨⟨h1, h2.1⟩, h2.2⟩]
      refine ⟨?_, M1⟩
      omega
    · simp [hb]
      refine ite_r (t := true) (by simp) (fun _ => ?_) (fun h => by cases h)
      simp
      exact M1
  · simp [ha]
    refine ifg_r (t := true) (by simp) (fun h => by cases h) (fun _ => ?_)
    simp
    refine ite_r (t := true) (by simp) (fun _ => ?_) (fun h => by cases h)
    simp
    exact M1

theorem tells_c {w : World} {v : Value} {l : List Int} (k x u : Int) (hu0 : (Lit.int .u64 u).wf = true) (h : Rd (fun b => b < w.heap.size) w v l.length (intsV l)) : Calls Try.prog 9 [.int .i64 k, .int .i64 x, .int .u64 u, v].toArray w (Ret fun r w' => r = .bool true ∧ Mod none' w w') := by
  refine F_sound c9 (by simp [fc9]) ?_
  obtain ⟨hS, hL⟩ := h.sl
  obtain ⟨u, rfl, hu⟩ := wf_u64 hu0
  simp [fc9, s9]
  refine callm rknown_c (by simp) ?_
  intro w1 M1
  simp
  refine ite_r (t := false) (by simp) (fun h => by cases h) (fun _ => ?_)
  simp [hS, hL]
  by_cases hbig : 120 < l.length
  · refine ite_r (t := true) (by simp; omega) (fun _ => ?_) (fun h => by cases h)
    simp
    exact M1
  refine ite_r (t := false) (by simp; omega) (fun h => by cases h) (fun _ => ?_)
  simp
  have h1 := h.at M1
  refine callp (fold_c x) (by simp) ?_
  refine callp (fold2_c x) (by simp) ?_
  simp
  refine ifg_r (t := true) (by simp) (fun _ => ?_) (fun h => (h rfl).elim)
  refine callp (unfold_c u hu) (by simp) ?_
  simp
  refine ifg_r (t := true) (by simp) (fun _ => ?_) (fun h => (h rfl).elim)
  refine callp (unfold2_c u hu) (by simp) ?_
  simp
  refine ifg_r (t := true) (by simp) (fun _ => ?_) (fun h => (h rfl).elim)
  refine callp (cost_c k x) (by simp) ?_
  simp
  refine ifg_r (t := true) (by simp) (fun _ => ?_) (fun h => (h rfl).elim)
  refine callp (cost2_c k x) (by simp) ?_
  simp
  refine ifg_r (t := true) (by simp) (fun _ => ?_) (fun h => (h rfl).elim)
  refine callp (sum_c k h1 (by omega)) (by simp) ?_
  simp
  refine ifg_r (t := true) (by simp) (fun _ => ?_) (fun h => (h rfl).elim)
  refine callp (sum2_c k h1 (by omega)) (by simp) ?_
  simp
  refine ifg_r (t := true) (by simp) (fun _ => ?_) (fun h => (h rfl).elim)
  refine callp (best_c h1 (by omega)) (by simp) ?_
  simp
  refine ifg_r (t := true) (by simp) (fun _ => ?_) (fun h => (h rfl).elim)
  refine callp (best2_c h1 (by omega)) (by simp) ?_
  simp
  exact M1

theorem least_c {w : World} {v : Value} {l : List Int} (k : Int) (h : Rd (fun b => b < w.heap.size) w v l.length (intsV l)) : Calls Try.prog 10 [v, .int .i64 k].toArray w (Ret fun r w' => r = .bool true ∧ Mod none' w w') := by
  refine F_sound c10 (by simp [fc10]) ?_
  obtain ⟨hS, hL⟩ := h.sl
  simp [fc10, s10]
  refine callm rknown_c (by simp) ?_
  intro w1 M1
  have h1 := h.at M1
  simp
  refine ite_r (t := false) (by simp) (fun h => by cases h) (fun _ => ?_)
  simp [hS, hL]
  by_cases hbig : 150 < l.length
  · simp [show (150 : Int) < l.length by omega]
    refine ifg_r (t := true) (by simp) (fun h => by cases h) (fun _ => ?_)
    simp
    refine ite_r (t := true) (by simp) (fun _ => ?_) (fun h => by cases h)
    simp
    exact M1
  simp [show ¬ (150 : Int) < l.length by omega]
  refine ifg_r (t := false) (by simp) (fun _ => ?_) (fun h => (h rfl).elim)
  refine callp (allWide2_c h1 (by unfold maxLen; omega)) (by simp) ?_
  have h2 := h1
  by_cases ha : allW l = true
  · simp [ha]
    refine ite_r (t := false) (by simp) (fun h => by cases h) (fun _ => ?_)
    obtain ⟨K, hK, hK2⟩ := and_nat k 8 (by omega)
    simp at hK hK2
    simp [hK]
    have hm : ((K : Int)).tmod 26 = (K : Int) % 26 := tmod_nn (by omega)
    rw [hm]
    obtain ⟨k', hk⟩ : ∃ k' : Nat, (K : Int) % 26 = k' := ⟨K % 26, by omega⟩
    rw [hk]
    refine callp (best_c h2 (by omega)) (by simp) ?_
    have hbl := bestF_le l 25
    obtain ⟨q1, q2⟩ := bestF_least l 25 k' (by omega)
    rw [bestF_sum] at q1 q2
    rw [show (bestF l 25).1 = bestN l from rfl] at *
    generalize bestN l = B at *
    simp
    refine ite_r (t := false) (by simp; omega) (fun h => by cases h) (fun _ => ?_)
    simp
    refine callp (sum_c (B : Int) h2 (by omega)) (by simp) ?_
    refine callp (sum_c (k' : Int) h2 (by omega)) (by simp) ?_
    have M := M1
    simp [q1]
    by_cases hkb : k' < B
    · have := q2 hkb
      simp [show ¬ B ≤ k' by omega]
      refine ifg_r (t := false) (by simp) (fun _ => ?_) (fun h => (h rfl).elim)
      refine callp (sum_c (B : Int) h2 (by omega)) (by simp) ?_
      simp
      refine ifg_r (t := false) (by simp) (fun _ => ?_) (fun h => (h rfl).elim)
      refine callp (sum_c (k' : Int) h2 (by omega)) (by simp) ?_
      simp
      exact ⟨this, M⟩
    · simp [show B ≤ k' by omega]
      refine ifg_r (t := true) (by simp) (fun h => by cases h) (fun _ => ?_)
      simp
      refine ifg_r (t := true) (by simp) (fun h => by cases h) (fun _ => ?_)
      simp
      exact M
  · simp [ha]
    refine ite_r (t := true) (by simp) (fun _ => ?_) (fun h => by cases h)
    simp
    exact M1

end Go.Proofs.Ytkhjmlfnmakkpaa.VG
