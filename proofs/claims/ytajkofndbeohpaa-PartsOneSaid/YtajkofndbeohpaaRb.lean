/-
  Rice: sums, the best parameter: what each call comes to.
-/
import Derived.Test.YtajkofndbeohpaaRa
namespace Go.Proofs.Ytajkofndbeohpaa.VG
open Go
set_option linter.unusedSimpArgs false
set_option linter.unusedVariables false

def sumTo (k : Int) (l : List Int) : Nat → Int
  | 0 => 0
  | i + 1 => sumTo k l i + costI k (gi l i)
def sumI (k : Int) (l : List Int) : Int := sumTo k l l.length
theorem sumTo_bd (k : Int) (l : List Int) : ∀ i : Nat, 0 ≤ sumTo k l i ∧ sumTo k l i ≤ 65 * (i : Int)
  | 0 => by simp [sumTo]
  | i + 1 => by
    have h1 := sumTo_bd k l i
    have h2 := costI_bd k (gi l i)
    simp only [sumTo]; omega
def bestF (l : List Int) : Nat → Nat × Int
  | 0 => (0, sumI 0 l)
  | i + 1 => if sumI ((i + 1 : Nat) : Int) l < (bestF l i).2 then (i + 1, sumI ((i + 1 : Nat) : Int) l) else bestF l i
def bestN (l : List Int) : Nat := (bestF l 25).1
theorem bestF_sum (l : List Int) : ∀ i, (bestF l i).2 = sumI ((bestF l i).1 : Int) l
  | 0 => rfl
  | i + 1 => by
    simp only [bestF]
    split
    · rfl
    · exact bestF_sum l i
theorem bestF_le (l : List Int) : ∀ i, (bestF l i).1 ≤ i
  | 0 => Nat.le_refl _
  | i + 1 => by
    simp only [bestF]
    split
    · exact Nat.le_refl _
    · have := bestF_le l i; omega
theorem bestF_least (l : List Int) : ∀ i k : Nat, k ≤ i → (bestF l i).2 ≤ sumI (k : Int) l ∧ (k < (bestF l i).1 → (bestF l i).2 < sumI (k : Int) l)
  | 0, k, h => by
    obtain rfl : k = 0 := by omega
    exact ⟨Int.le_refl _, fun h => by simp [bestF] at h⟩
  | i + 1, k, h => by
    simp only [bestF]
    split
    · rename_i hlt
      by_cases hk : k = i + 1
      · subst hk; exact ⟨Int.le_refl _, fun h => by simp at h⟩
      · have := (bestF_least l i k (by omega)).1
        exact ⟨by show sumI _ _ ≤ _; omega, fun _ => by show sumI _ _ < _; omega⟩
    · rename_i hlt
      by_cases hk : k = i + 1
      · subst hk
        have := bestF_le l i
        exact ⟨by omega, fun h => by omega⟩
      · exact bestF_least l i k (by omega)

theorem sum_c {G : Nat → Prop} {w : World} {v : Value} {l : List Int} (k : Int) (h : Rd G w v l.length (intsV l)) (hl : l.length ≤ 1000000) :
    Calls Try.prog 29 [.int .i64 k, v].toArray w (Ret fun r w' => r = .int .i64 (sumI k l) ∧ w' = w) := by
  refine F_sound c29 (by simp [fc29]) ?_
  obtain ⟨hS, hL⟩ := h.sl
  simp [fc29, s29, hS, hL]
  refine for_r l.length (fun i env' w' => env' 0 = .int .i64 k ∧ env' 5 = .int .i64 (sumTo k l i) ∧ env' 8 = v ∧ env' 9 = .int .i64 l.length ∧ env' 10 = .int .i64 i ∧ w' = w) ?_ ?_ ?_
  · simp [sumTo]
  · rintro i env w hi ⟨e0, e5, e8, e9, e10, rfl⟩
    have hc := h.gi i hi
    have hp := h.some (by omega)
    have hb := sumTo_bd k l i
    have hb2 := costI_bd k (gi l i)
    simp [e9, e10]
    refine ite_r (t := true) (by simp [hi]) (fun _ => ?_) (fun h => by cases h)
    simp [wp_blk, e8, e10, hS, hL, hp, hc, hi]
    refine callp (cost_c k (gi l i)) (by simp [e0]) ?_
    simp (disch := omega) [wI, wU, tmod_nn, tdiv_nn, env0_0, env0_1, env0_2, env0_3, env0_4, env0_5, -env0_apply, e0, e5, e8, e9, e10, sumTo]
  · rintro env w ⟨e0, e5, e8, e9, e10, rfl⟩
    simp [e9, e10]
    refine ite_r (t := false) (by simp) (fun h => by cases h) (fun _ => ?_)
    simp [e5, sumI]
theorem sum2_c {G : Nat → Prop} {w : World} {v : Value} {l : List Int} (k : Int) (h : Rd G w v l.length (intsV l)) (hl : l.length ≤ 1000000) :
    Calls Try.prog 66 [.int .i64 k, v].toArray w (Ret fun r w' => r = .int .i64 (sumI k l) ∧ w' = w) := by
  refine F_sound c66 (by simp [fc66]) ?_
  obtain ⟨hS, hL⟩ := h.sl
  simp [fc66, s66]
  refine for_r l.length (fun i env' w' => env' 0 = .int .i64 k ∧ env' 1 = v ∧ env' 5 = .int .i64 (sumTo k l i) ∧ env' 6 = .int .i64 i ∧ w' = w) ?_ ?_ ?_
  · simp [sumTo]
  · rintro i env w hi ⟨e0, e1, e5, e6, rfl⟩
    have hc := h.gi i hi
    have hp := h.some (by omega)
    have hb := sumTo_bd k l i
    have hb2 := costI_bd k (gi l i)
    simp [e1, e6, hS, hL]
    refine ite_r (t := true) (by simp [hi]) (fun _ => ?_) (fun h => by cases h)
    simp [wp_blk, e1, e6, hS, hL, hp, hc, hi]
    refine callp (cost2_c k (gi l i)) (by simp [e0]) ?_
    simp (disch := omega) [wI, wU, tmod_nn, tdiv_nn, env0_0, env0_1, env0_2, env0_3, env0_4, env0_5, -env0_apply, e0, e1, e5, e6, sumTo]
  · rintro env w ⟨e0, e1, e5, e6, rfl⟩
    simp [e1, e6, hS, hL]
    refine ite_r (t := false) (by simp) (fun h => by cases h) (fun _ => ?_)
    simp [e5, sumI]
theorem best_c {G : Nat → Prop} {w : World} {v : Value} {l : List Int} (h : Rd G w v l.length (intsV l)) (hl : l.length ≤ 1000000) :
    Calls Try.prog 78 [v].toArray w (Ret fun r w' => r = .int .i64 (bestN l) ∧ w' = w) := by
  refine F_sound c78 (by simp [fc78]) ?_
  simp [fc78, s78]
  refine callp (sum_c 0 h hl) (by simp) ?_
  simp
  refine for_r 25 (fun i env' w' => env' 0 = v ∧ env' 3 = .int .i64 (bestF l i).1 ∧ env' 4 = .int .i64 (bestF l i).2 ∧ env' 5 = .int .i64 ((i + 1 : Nat) : Int) ∧ w' = w) ?_ ?_ ?_
  · simp [bestF]
  · rintro i env w hi ⟨e0, e3, e4, e5, rfl⟩
    simp [e5]
    refine ite_r (t := true) (by simp; omega) (fun _ => ?_) (fun h => by cases h)
    simp [wp_blk]
    refine callp (sum_c ((i + 1 : Nat) : Int) h hl) (by simp [e0, e5]) ?_
    simp [e4, -Int.natCast_add]
    by_cases hlt : sumI ((i + 1 : Nat) : Int) l < (bestF l i).2
    · refine ite_r (t := true) (by simp [hlt, -Int.natCast_add]) (fun _ => ?_) (fun h => by cases h)
      simp (disch := omega) [wI, wU, tmod_nn, tdiv_nn, env0_0, env0_1, env0_2, env0_3, env0_4, env0_5, -env0_apply, e0, e3, e4, e5, bestF]
      rw [if_pos (by simpa using hlt)]
      simp
    · refine ite_r (t := false) (by simp [-Int.natCast_add]; omega) (fun h => by cases h) (fun _ => ?_)
      simp (disch := omega) [wI, wU, tmod_nn, tdiv_nn, env0_0, env0_1, env0_2, env0_3, env0_4, env0_5, -env0_apply, e0, e3, e4, e5, bestF]
      rw [if_neg (by simpa using hlt)]
      exact ⟨rfl, rfl⟩
  · rintro env w ⟨e0, e3, e4, e5, rfl⟩
    simp [e5]
    refine ite_r (t := false) (by simp) (fun h => by cases h) (fun _ => ?_)
    simp [e3, bestN]
theorem best2_c {G : Nat → Prop} {w : World} {v : Value} {l : List Int} (h : Rd G w v l.length (intsV l)) (hl : l.length ≤ 1000000) :
    Calls Try.prog 79 [v].toArray w (Ret fun r w' => r = .int .i64 (bestN l) ∧ w' = w) := by
  refine F_sound c79 (by simp [fc79]) ?_
  simp [fc79, s79]
  refine for_r 25 (fun i env' w' => env' 0 = v ∧ env' 3 = .int .i64 (bestF l i).1 ∧ env' 4 = .int .i64 ((i + 1 : Nat) : Int) ∧ w' = w) ?_ ?_ ?_
  · simp [bestF]
  · rintro i env w hi ⟨e0, e3, e4, rfl⟩
    simp [e4]
    refine ite_r (t := true) (by simp; omega) (fun _ => ?_) (fun h => by cases h)
    simp [wp_blk]
    refine callp (sum2_c ((i + 1 : Nat) : Int) h hl) (by simp [e0, e4]) ?_
    refine callp (sum2_c ((bestF l i).1 : Int) h hl) (by simp [e0, e3]) ?_
    have hs := bestF_sum l i
    rw [← hs]
    simp [-Int.natCast_add]
    by_cases hlt : sumI ((i + 1 : Nat) : Int) l < (bestF l i).2
    · refine ite_r (t := true) (by simp [hlt, -Int.natCast_add]) (fun _ => ?_) (fun h => by cases h)
      simp (disch := omega) [wI, wU, tmod_nn, tdiv_nn, env0_0, env0_1, env0_2, env0_3, env0_4, env0_5, -env0_apply, e0, e3, e4, bestF]
      rw [if_pos (by simpa using hlt)]
      simp
    · refine ite_r (t := false) (by simp [-Int.natCast_add]; omega) (fun h => by cases h) (fun _ => ?_)
      simp (disch := omega) [wI, wU, tmod_nn, tdiv_nn, env0_0, env0_1, env0_2, env0_3, env0_4, env0_5, -env0_apply, e0, e3, e4, bestF]
      rw [if_neg (by simpa using hlt)]
  · rintro env w ⟨e0, e3, e4, rfl⟩
    simp [e4]
    refine ite_r (t := false) (by simp) (fun h => by cases h) (fun _ => ?_)
    simp [e3, bestN]

end Go.Proofs.Ytajkofndbeohpaa.VG
