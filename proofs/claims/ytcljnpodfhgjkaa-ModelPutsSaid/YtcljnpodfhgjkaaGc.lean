/-
  Guesses: planes, kinds, fore and back.
-/
import Derived.Test.YtcljnpodfhgjkaaGb
namespace Go.Proofs.Ytcljnpodfhgjkaa.VG
open Go
set_option linter.unusedSimpArgs false
set_option linter.unusedVariables false
set_option maxRecDepth 20000

def planeB (l : List Int) (w h d : Int) : Bool := decide (1 ≤ w) && decide (w ≤ 64) && decide (1 ≤ h) && decide (h ≤ 64) && dep d && decide ((l.length : Int) = w * h) && l.all (inD d)
theorem planeB_iff {l : List Int} {w h d : Int} : planeB l w h d = true ↔ (1 ≤ w ∧ w ≤ 64) ∧ (1 ≤ h ∧ h ≤ 64) ∧ dep d = true ∧ (l.length : Int) = w * h ∧ l.all (inD d) = true := by simp [planeB, and_assoc]
def kindB (k : Int) : Bool := decide (0 ≤ k) && decide (k ≤ 9)
theorem kindB_iff {k : Int} : kindB k = true ↔ 0 ≤ k ∧ k ≤ 9 := by simp [kindB]
def kindsB (ks : List Int) (h : Int) : Bool := decide ((ks.length : Int) = h) && ks.all kindB
theorem all_step {f : Int → Bool} {l : List Int} {i : Nat} (h : (l.take i).all f = true) (hi : i < l.length) : (l.take (i + 1)).all f = f (gi l i) := by
  rw [gi_take_snoc l i hi, List.all_append, h]; simp
theorem all_stop {f : Int → Bool} {l : List Int} {i : Nat} (hi : i < l.length) (h : f (gi l i) = false) : l.all f = false := by
  rw [List.all_eq_false]
  exact ⟨_, gi_mem l i hi, by simp [h]⟩
theorem mul64 {w h : Int} (hw : 1 ≤ w ∧ w ≤ 64) (hh : 1 ≤ h ∧ h ≤ 64) : 1 ≤ w * h ∧ w * h ≤ 4096 := by
  have h1 := mul_bd0 (a := w) (b := h) (A := 64) (B := 64) (by omega) (by omega) (by omega) (by omega)
  have h2 := Int.mul_le_mul (show 1 ≤ w by omega) (show 1 ≤ h by omega) (by omega) (by omega)
  omega

set_option maxHeartbeats 1000000 in
theorem plane2_ok {G : Nat → Prop} {w : World} {v : Value} {l : List Int} (wd h d : Int) (hr : Rd G w v l.length (intsV l)) (hl : l.length ≤ 1000000) : Calls Try.prog 74 [v, .int .i64 wd, .int .i64 h, .int .i64 d].toArray w (Ret fun r w' => r = .bool (planeB l wd h d) ∧ w' = w) := by
  refine F_sound c74 (by simp [fc74]) ?_
  obtain ⟨hS, hL⟩ := hr.sl
  simp [fc74, s74]
  refine callp (side2_c wd) (by simp) ?_
  by_cases hw : 1 ≤ wd ∧ wd ≤ 64
  rotate_left
  · have hw1 : (decide (1 ≤ wd) && decide (wd ≤ 64)) = false := by simp; omega
    have e : planeB l wd h d = false := by simp [planeB, hw1]
    rw [hw1, e]
    simp
    refine ifg_r (t := false) (by simp) (fun h => by cases h) (fun _ => ?_)
    simp
    refine ifg_r (t := false) (by simp) (fun h => by cases h) (fun _ => ?_)
    simp
    refine ifg_r (t := false) (by simp) (fun h => by cases h) (fun _ => ?_)
    simp
  have hw1 : (decide (1 ≤ wd) && decide (wd ≤ 64)) = true := by simp; omega
  rw [hw1]
  simp
  refine ifg_r (t := true) (by simp) (fun _ => ?_) (fun h => (h rfl).elim)
  refine callp (side2_c h) (by simp) ?_
  by_cases hh : 1 ≤ h ∧ h ≤ 64
  rotate_left
  · have hh1 : (decide (1 ≤ h) && decide (h ≤ 64)) = false := by simp; omega
    have e : planeB l wd h d = false := by
      rcases Bool.eq_false_or_eq_true (planeB l wd h d) with hp | hp
      · exact absurd (planeB_iff.1 hp).2.1 hh
      · exact hp
    rw [hh1, e]
    simp
    refine ifg_r (t := false) (by simp) (fun h => by cases h) (fun _ => ?_)
    simp
    refine ifg_r (t := false) (by simp) (fun h => by cases h) (fun _ => ?_)
    simp
  have hh1 : (decide (1 ≤ h) && decide (h ≤ 64)) = true := by simp; omega
  rw [hh1]
  simp
  refine ifg_r (t := true) (by simp) (fun _ => ?_) (fun h => (h rfl).elim)
  refine callp (dep2_c d) (by simp) ?_
  have e : planeB l wd h d = (dep d && (decide ((l.length : Int) = wd * h) && l.all (inD d))) := by simp [planeB, hw, hh, Bool.and_assoc]
  rw [e]
  have hm := mul64 hw hh
  have w1 : IntKind.i64.wrap (wd * h) = wd * h := wI (by omega) (by omega)
  cases hd : dep d
  · simp
    refine ifg_r (t := false) (by simp) (fun h => by cases h) (fun _ => ?_)
    simp
  simp [hS, hL, w1]
  by_cases hln : (l.length : Int) = wd * h
  rotate_left
  · refine ifg_r (t := false) (by simp [hln]) (fun h => by cases h) (fun _ => ?_)
    simp [hln]
  refine ifg_r (t := true) (by simp [hln]) (fun _ => ?_) (fun h => (h rfl).elim)
  refine callp (within2_c d hr (by unfold maxLen; omega) hd) (by simp) ?_
  simp [hln]

end Go.Proofs.Ytcljnpodfhgjkaa.VG
