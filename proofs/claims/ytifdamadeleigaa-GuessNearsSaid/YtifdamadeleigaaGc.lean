/-
  Guesses: planes, kinds, fore and back.
-/
import Derived.Test.YtifdamadeleigaaGb
namespace Go.Proofs.Ytifdamadeleigaa.VG
open Go
set_option linter.unusedSimpArgs false
set_option linter.unusedVariables false

def planeB (l : List Int) (w h d : Int) : Bool := decide (1 ≤ w) && decide (w ≤ 64) && decide (1 ≤ h) && decide (h ≤ 64) && dep d && decide ((l.length : Int) = w * h) && l.all (inD d)
theorem planeB_iff {l : List Int} {w h d : Int} : planeB l w h d = true ↔ (1 ≤ w ∧ w ≤ 64) ∧ (1 ≤ h ∧ h ≤ 64) ∧ dep d = true ∧ (l.length : Int) = w * h ∧ l.all (inD d) = true := by simp [planeB, and_assoc]
def kindB (k : Int) : Bool := decide (0 ≤ k) && decide (k ≤ 9)
theorem kindB_iff {k : Int} : kindB k = true ↔ 0 ≤ k ∧ k ≤ 9 := by simp [kindB]
def kindsB (ks : List Int) (h : Int) : Bool := decide ((ks.length : Int) = h) && ks.all kindB
theorem all_step {f : Int → Bool} {l : List Int} {i : Nat} (h : (l.take i).all f = true) (hi : i < l.length) : (l.take (i + 1)).all f = f (gi l i) := by
  rw [gi_take_snoc l i hi, List.all_append, h]; simp
theorem all_stop {f : Int → Bool} {l : List Int} {i : Nat} (hi : i < l.length) (h : f (gi l i) = false) : l.all f = false := by
  rw [List.all_eq_false]
  exact ⟨_, gi_mem l i hi, by simp [h]⟩
theorem mul64 {w h : Int} (hw : 1 ≤ w ∧ w ≤ 64) (hh : 1 ≤ h ∧ h ≤ 64) : 1 ≤ w * h ∧ w * h ≤ 4096 := by
  have h1 := mul_bd0 (a := w) (b := h) (A := 64) (B := 64) (by omega) (by omega) (by omega) (by omega)
  have h2 := Int.mul_le_mul (show 1 ≤ w by omega) (show 1 ≤ h by omega) (by omega) (by omega)
  omega

set_option maxHeartbeats 1000000 in
theorem plane_ok {G : Nat → Prop} {w : World} {v : Value} {l : List Int} (wd h d : Int) (hr : Rd G w v l.length (intsV l)) (hl : l.length ≤ 1000000) : Calls Try.prog 34 [v, .int .i64 wd, .int .i64 h, .int .i64 d].toArray w (Ret fun r w' => r = .bool (planeB l wd h d) ∧ w' = w) := by
  refine F_sound c34 (by simp [fc34]) ?_
  obtain ⟨hS, hL⟩ := hr.sl
  simp [fc34, s34]
  by_cases hb : (1 ≤ wd ∧ wd ≤ 64) ∧ (1 ≤ h ∧ h ≤ 64) ∧ 1 ≤ d ∧ d ≤ 16
  rotate_left
  · refine ite_r (t := true) (by simp; omega) (fun _ => ?_) (fun h => by cases h)
    simp
    rcases Bool.eq_false_or_eq_true (planeB l wd h d) with hp | hp
    · obtain ⟨h1, h2, h3, _⟩ := planeB_iff.1 hp
      exact absurd ⟨h1, h2, dep_iff.1 h3⟩ hb
    · exact hp
  obtain ⟨hw, hh, hd⟩ := hb
  have hm := mul64 hw hh
  have w1 : IntKind.i64.wrap (wd * h) = wd * h := wI (by omega) (by omega)
  have hd1 : dep d = true := dep_iff.2 hd
  have hp := p2_bd hd.2
  have hs := shl_p2 (d := d) (by omega) (by omega)
  have e : planeB l wd h d = (decide ((l.length : Int) = wd * h) && l.all (inD d)) := by simp [planeB, hw, hh, hd1]
  rw [e]
  refine ite_r (t := false) (by simp; omega) (fun h => by cases h) (fun _ => ?_)
  simp [hS, hL, w1]
  by_cases hln : (l.length : Int) = wd * h
  rotate_left
  · refine ite_r (t := true) (by simp [hln]) (fun _ => ?_) (fun h => by cases h)
    simp [hln]
  refine ite_r (t := false) (by simp [hln]) (fun h => by cases h) (fun _ => ?_)
  simp [hS, hL, hln]
  rw [← hln]
  refine for_r l.length (fun i env' w' => env' 3 = .int .i64 d ∧ env' 39 = v ∧ env' 40 = .int .i64 l.length ∧ env' 41 = .int .i64 i ∧ (l.take i).all (inD d) = true ∧ w' = w) ?_ ?_ ?_
  · simp [hL, hln]
  · rintro i env w' hi ⟨e3, e39, e40, e41, hall, rfl⟩
    simp [e40, e41]
    refine ite_r (t := true) (by simp; omega) (fun _ => ?_) (fun h => by cases h)
    simp [wp_blk]
    have hg := hr.gi i hi
    have hp1 := hr.some (by omega)
    simp [e3, e39, e41, hS, hL, hi, hg, hp1, hs]
    have hat := all_step hall hi
    have hno := @all_stop (inD d) l i hi
    generalize gi l i = x at *
    have hw1 : IntKind.i64.wrap ((i : Int) + 1) = ((i + 1 : Nat) : Int) := by rw [wI (by omega) (by omega)]; omega
    refine ⟨fun _ => by omega, ?_⟩
    cases hx : inD d x
    · have : ¬ (0 ≤ x ∧ x < p2 d) := by rw [← inD_iff, hx]; simp
      refine ite_r (t := true) (by simp; omega) (fun _ => ?_) (fun h => by cases h)
      simp
      have := hno hx
      simpa using this
    · have := inD_iff.1 hx
      refine ite_r (t := false) (by simp; omega) (fun h => by cases h) (fun _ => ?_)
      simp [-Int.natCast_add, hw1, e3, e39, e40, e41]
      rw [← List.all_eq_true, hat, hx]
      exact ⟨by omega, rfl⟩
  · rintro env w' ⟨e3, e39, e40, e41, hall, rfl⟩
    simp [e40, e41]
    refine ite_r (t := false) (by simp) (fun h => by cases h) (fun _ => ?_)
    simp
    rw [List.take_length] at hall
    simpa using hall

set_option maxHeartbeats 1000000 in
theorem plane2_ok {G : Nat → Prop} {w : World} {v : Value} {l : List Int} (wd h d : Int) (hr : Rd G w v l.length (intsV l)) (hl : l.length ≤ 1000000) : Calls Try.prog 42 [v, .int .i64 wd, .int .i64 h, .int .i64 d].toArray w (Ret fun r w' => r = .bool (planeB l wd h d) ∧ w' = w) := by
  refine F_sound c42 (by simp [fc42]) ?_
  obtain ⟨hS, hL⟩ := hr.sl
  simp [fc42, s42]
  refine callp (side2_c wd) (by simp) ?_
  by_cases hw : 1 ≤ wd ∧ wd ≤ 64
  rotate_left
  · have hw1 : (decide (1 ≤ wd) && decide (wd ≤ 64)) = false := by simp; omega
    have e : planeB l wd h d = false := by simp [planeB, hw1]
    rw [hw1, e]
    simp
    refine ifg_r (t := false) (by simp) (fun h => by cases h) (fun _ => ?_)
    simp
    refine ifg_r (t := false) (by simp) (fun h => by cases h) (fun _ => ?_)
    simp
    refine ifg_r (t := false) (by simp) (fun h => by cases h) (fun _ => ?_)
    simp
  have hw1 : (decide (1 ≤ wd) && decide (wd ≤ 64)) = true := by simp; omega
  rw [hw1]
  simp
  refine ifg_r (t := true) (by simp) (fun _ => ?_) (fun h => (h rfl).elim)
  refine callp (side2_c h) (by simp) ?_
  by_cases hh : 1 ≤ h ∧ h ≤ 64
  rotate_left
  · have hh1 : (decide (1 ≤ h) && decide (h ≤ 64)) = false := by simp; omega
    have e : planeB l wd h d = false := by
      rcases Bool.eq_false_or_eq_true (planeB l wd h d) with hp | hp
      · exact absurd (planeB_iff.1 hp).2.1 hh
      · exact hp
    rw [hh1, e]
    simp
    refine ifg_r (t := false) (by simp) (fun h => by cases h) (fun _ => ?_)
    simp
    refine ifg_r (t := false) (by simp) (fun h => by cases h) (fun _ => ?_)
    simp
  have hh1 : (decide (1 ≤ h) && decide (h ≤ 64)) = true := by simp; omega
  rw [hh1]
  simp
  refine ifg_r (t := true) (by simp) (fun _ => ?_) (fun h => (h rfl).elim)
  refine callp (dep2_c d) (by simp) ?_
  have e : planeB l wd h d = (dep d && (decide ((l.length : Int) = wd * h) && l.all (inD d))) := by simp [planeB, hw, hh, Bool.and_assoc]
  rw [e]
  have hm := mul64 hw hh
  have w1 : IntKind.i64.wrap (wd * h) = wd * h := wI (by omega) (by omega)
  cases hd : dep d
  · simp
    refine ifg_r (t := false) (by simp) (fun h => by cases h) (fun _ => ?_)
    simp
  simp [hS, hL, w1]
  by_cases hln : (l.length : Int) = wd * h
  rotate_left
  · refine ifg_r (t := false) (by simp [hln]) (fun h => by cases h) (fun _ => ?_)
    simp [hln]
  refine ifg_r (t := true) (by simp [hln]) (fun _ => ?_) (fun h => (h rfl).elim)
  refine callp (within2_c d hr (by unfold maxLen; omega) hd) (by simp) ?_
  simp [hln]

set_option maxHeartbeats 1000000 in
theorem kinds_ok {G : Nat → Prop} {w : World} {v : Value} {ks : List Int} (h : Int) (hr : Rd G w v ks.length (intsV ks)) (hl : ks.length ≤ 1000000) : Calls Try.prog 35 [v, .int .i64 h].toArray w (Ret fun r w' => r = .bool (kindsB ks h) ∧ w' = w) := by
  refine F_sound c35 (by simp [fc35]) ?_
  obtain ⟨hS, hL⟩ := hr.sl
  simp [fc35, s35, hS, hL]
  unfold kindsB
  by_cases hln : (ks.length : Int) = h
  rotate_left
  · refine ite_r (t := true) (by simp [hln]) (fun _ => ?_) (fun h => by cases h)
    simp [hln]
  refine ite_r (t := false) (by simp [hln]) (fun h => by cases h) (fun _ => ?_)
  simp [hS, hL, hln]
  rw [← hln]
  refine for_r ks.length (fun i env' w' => env' 11 = v ∧ env' 12 = .int .i64 ks.length ∧ env' 13 = .int .i64 i ∧ (ks.take i).all kindB = true ∧ w' = w) ?_ ?_ ?_
  · simp [hL, hln]
  · rintro i env w' hi ⟨e11, e12, e13, hall, rfl⟩
    simp [e12, e13]
    refine ite_r (t := true) (by simp; omega) (fun _ => ?_) (fun h => by cases h)
    simp [wp_blk]
    have hg := hr.gi i hi
    have hp1 := hr.some (by omega)
    simp [e11, e13, hS, hL, hi, hg, hp1]
    have hat := all_step hall hi
    have hno := @all_stop kindB ks i hi
    generalize gi ks i = x at *
    have hw1 : IntKind.i64.wrap ((i : Int) + 1) = ((i + 1 : Nat) : Int) := by rw [wI (by omega) (by omega)]; omega
    cases hx : kindB x
    · have : ¬ (0 ≤ x ∧ x ≤ 9) := by rw [← kindB_iff, hx]; simp
      refine ite_r (t := true) (by simp; omega) (fun _ => ?_) (fun h => by cases h)
      simp
      have := hno hx
      simpa using this
    · have := kindB_iff.1 hx
      refine ite_r (t := false) (by simp; omega) (fun h => by cases h) (fun _ => ?_)
      simp [-Int.natCast_add, hw1, e11, e12, e13]
      rw [← List.all_eq_true, hat, hx]
      exact ⟨by omega, rfl⟩
  · rintro env w' ⟨e11, e12, e13, hall, rfl⟩
    simp [e12, e13]
    refine ite_r (t := false) (by simp) (fun h => by cases h) (fun _ => ?_)
    simp
    rw [List.take_length] at hall
    simpa using hall

set_option maxHeartbeats 1000000 in
theorem kinds2_ok {G : Nat → Prop} {w : World} {v : Value} {ks : List Int} (h : Int) (hr : Rd G w v ks.length (intsV ks)) (hl : ks.length ≤ 1000000) : Calls Try.prog 45 [v, .int .i64 h].toArray w (Ret fun r w' => r = .bool (kindsB ks h) ∧ w' = w) := by
  refine F_sound c45 (by simp [fc45]) ?_
  obtain ⟨hS, hL⟩ := hr.sl
  simp [fc45, s45, hS, hL]
  unfold kindsB
  refine for_r ks.length (fun i env' w' => env' 0 = v ∧ env' 1 = .int .i64 h ∧ env' 5 = .int .i64 i ∧ (ks.take i).all kindB = true ∧ w' = w) ?_ ?_ ?_
  · simp
  · rintro i env w' hi ⟨e0, e1, e5, hall, rfl⟩
    simp [e0, e5, hS, hL]
    refine ite_r (t := true) (by simp; omega) (fun _ => ?_) (fun h => by cases h)
    simp [wp_blk]
    have hg := hr.gi i hi
    have hp1 := hr.some (by omega)
    simp [e0, e5, hS, hL, hi, hg, hp1]
    have hat := all_step hall hi
    have hno := @all_stop kindB ks i hi
    generalize gi ks i = x at *
    have hw1 : IntKind.i64.wrap ((i : Int) + 1) = ((i + 1 : Nat) : Int) := by rw [wI (by omega) (by omega)]; omega
    cases hx : kindB x
    · have : ¬ (0 ≤ x ∧ x ≤ 9) := by rw [← kindB_iff, hx]; simp
      refine ite_r (t := true) (by simp; omega) (fun _ => ?_) (fun h => by cases h)
      simp
      intro _
      have := hno hx
      rw [List.all_eq_false] at this
      simpa using this
    · have := kindB_iff.1 hx
      refine ite_r (t := false) (by simp; omega) (fun h => by cases h) (fun _ => ?_)
      simp [-Int.natCast_add, hw1, e0, e1, e5]
      rw [← List.all_eq_true, hat, hx]
      exact ⟨by omega, rfl⟩
  · rintro env w' ⟨e0, e1, e5, hall, rfl⟩
    simp [e0, e5, hS, hL]
    refine ite_r (t := false) (by simp) (fun h => by cases h) (fun _ => ?_)
    simp [hS, hL, e0, e1]
    rw [List.take_length] at hall
    rw [hall, Bool.eq_iff_iff]; simp

end Go.Proofs.Ytifdamadeleigaa.VG
