/-
  Model: levels, contexts, classes.
-/
import Derived.Test.YtcljnpodfhgjkaaMa
namespace Go.Proofs.Ytcljnpodfhgjkaa.VG
open Go
set_option linter.unusedSimpArgs false
set_option linter.unusedVariables false
set_option maxRecDepth 20000

def lvN (u : Int) : Int := if u < 3 then 1 else if u < 7 then 2 else if u < 21 then 3 else 4
def lvlI (g d : Int) : Int := if dep d = true ∧ (-(p2 d) < g ∧ g < p2 d) ∧ g ≠ 0 then (if g < 0 then -(lvN (farI g * 256 / p2 d)) else lvN (farI g * 256 / p2 d)) else 0
theorem lvN_bd (u : Int) : 1 ≤ lvN u ∧ lvN u ≤ 4 := by unfold lvN; (repeat' split) <;> omega
theorem lvl_bd (g d : Int) : -4 ≤ lvlI g d ∧ lvlI g d ≤ 4 := by
  have := lvN_bd (farI g * 256 / p2 d)
  unfold lvlI; (repeat' split) <;> omega
theorem far_neg (g : Int) : farI (-g) = farI g := by unfold farI; (repeat' split) <;> omega
theorem lvl_neg (g d : Int) : lvlI (-g) d = -lvlI g d := by
  unfold lvlI
  rw [far_neg]
  generalize lvN (farI g * 256 / p2 d) = v
  cases dep d
  · simp
  · simp only [true_and]
    (repeat' split) <;> omega
theorem farM_bd {x : Int} (h : -65536 ≤ x ∧ x ≤ 65536) : 0 ≤ farI x ∧ farI x ≤ 65536 := by unfold farI; split <;> omega

theorem valid_c {w : World} (d : Int) : Calls Try.prog 41 [.int .i64 d].toArray w (Ret fun r w' => r = .bool (dep d) ∧ w' = w) := by
  refine F_sound c41 (by simp [fc41]) ?_
  simp [fc41, s41, dep]
theorem abs_c {w : World} (x : Int) (h : -9223372036854775807 ≤ x ∧ x ≤ 9223372036854775807) : Calls Try.prog 40 [.int .i64 x].toArray w (Ret fun r w' => r = .int .i64 (farI x) ∧ w' = w) := by
  refine F_sound c40 (by simp [fc40]) ?_
  have w1 : IntKind.i64.wrap (-x) = -x := wI (by omega) (by omega)
  simp [fc40, s40]
  unfold farI
  by_cases hx : x < 0
  · refine ite_r (t := true) (by simp [hx]) (fun _ => ?_) (fun h => by cases h)
    simp [w1, hx]
  · refine ite_r (t := false) (by simp; omega) (fun h => by cases h) (fun _ => ?_)
    simp [hx]
def farW (x : Int) : Int := if x = -9223372036854775808 then x else farI x
theorem far27_c {w : World} (x : Int) (h : -9223372036854775808 ≤ x ∧ x ≤ 9223372036854775807) : Calls Try.prog 44 [.int .i64 x].toArray w (Ret fun r w' => r = .int .i64 (farW x) ∧ w' = w) := by
  refine F_sound c44 (by simp [fc44]) ?_
  simp [fc44, s44]
  unfold farW farI
  by_cases hm : x = -9223372036854775808
  · subst hm
    have w1 : IntKind.i64.wrap 9223372036854775808 = -9223372036854775808 := by decide
    simp [w1]
  · have w1 : IntKind.i64.wrap (-x) = -x := wI (by omega) (by omega)
    rw [if_neg hm]
    simp [w1]
    (repeat' split) <;> omega
theorem farW_is {x : Int} (h : x ≠ -9223372036854775808) : farW x = farI x := by rw [farW, if_neg h]

theorem shr_p2 (x : Int) {d : Int} (h0 : 0 ≤ d) (h : d ≤ 62) : shr .i64 x d = x / p2 d := by
  obtain ⟨D, rfl⟩ : ∃ D : Nat, d = D := ⟨d.toNat, by omega⟩
  exact shr_int _ _ _ (by simp only [IntKind.bits]; omega)
theorem shlm_p2 {d : Int} (h0 : 0 ≤ d) (h : d ≤ 62) : shl .i64 (-1) d = -(p2 d) := by
  obtain ⟨D, rfl⟩ : ∃ D : Nat, d = D := ⟨d.toNat, by omega⟩
  have h1 : 2 ^ D ≤ 2 ^ 62 := Nat.pow_le_pow_right (by omega) (by omega)
  have h2 := Nat.two_pow_pos D
  rw [shl_int _ _ _ (by simp only [IntKind.bits]; omega)]
  unfold p2
  rw [Int.toNat_natCast, wI (by omega) (by omega)]
  omega

set_option maxHeartbeats 1000000 in
theorem level_c {w : World} (g d : Int) : Calls Try.prog 34 [.int .i64 g, .int .i64 d].toArray w (Ret fun r w' => r = .int .i64 (lvlI g d) ∧ w' = w) := by
  refine F_sound c34 (by simp [fc34]) ?_
  simp [fc34, s34]
  refine callp (valid_c d) (by simp) ?_
  cases hd : dep d
  · simp
    refine ite_r (t := true) (by simp) (fun _ => ?_) (fun h => by cases h)
    simp [lvlI, hd]
  have hd' := dep_iff.1 hd
  have hp := p2_bd hd'.2
  have s1 := shl_p2 (d := d) (by omega) (by omega)
  have s2 := shlm_p2 (d := d) (by omega) (by omega)
  simp [s1, s2]
  have hd0 : 0 ≤ d := by omega
  by_cases hg : (-(p2 d) < g ∧ g < p2 d) ∧ g ≠ 0
  rotate_left
  · refine ⟨hd0, fun _ => hd0, ?_⟩
    refine ite_r (t := true) (by simp; omega) (fun _ => ?_) (fun h => by cases h)
    have : lvlI g d = 0 := by rw [lvlI, if_neg (fun h => hg h.2)]
    simp [this]
  refine ⟨hd0, fun _ => hd0, ?_⟩
  refine ite_r (t := false) (by simp; omega) (fun h => by cases h) (fun _ => ?_)
  have e : lvlI g d = if g < 0 then -(lvN (farI g * 256 / p2 d)) else lvN (farI g * 256 / p2 d) := by rw [lvlI, if_pos ⟨hd, hg⟩]
  rw [e]
  simp
  refine callp (abs_c g (by omega)) (by simp) ?_
  have hf : 0 ≤ farI g ∧ farI g ≤ 65536 := farM_bd (by omega)
  have w1 : IntKind.i64.wrap (farI g * 256) = farI g * 256 := wI (by omega) (by omega)
  have s3 := shr_p2 (farI g * 256) (d := d) (by omega) (by omega)
  have hl : lvN (farI g * 256 / p2 d) = if farI g * 256 / p2 d < 3 then 1 else if farI g * 256 / p2 d < 7 then 2 else if farI g * 256 / p2 d < 21 then 3 else 4 := rfl
  have hb := lvN_bd (farI g * 256 / p2 d)
  simp [w1, s3, hd0]
  generalize farI g * 256 / p2 d = u at *
  refine blk_cut (fun env' w' => env' 0 = .int .i64 g ∧ env' 5 = .int .i64 (lvN u) ∧ w' = w) ?_ ?_
  · simp
    by_cases c1 : u < 3
    · rw [if_pos c1] at hl
      refine ite_r (t := true) (by simp [c1]) (fun _ => ?_) (fun h => by cases h)
      simp [hl]
    · rw [if_neg c1] at hl
      refine ite_r (t := false) (by simp [c1]) (fun h => by cases h) (fun _ => ?_)
      simp
      by_cases c2 : u < 7
      · rw [if_pos c2] at hl
        refine ite_r (t := true) (by simp [c2]) (fun _ => ?_) (fun h => by cases h)
        simp [hl]
      · rw [if_neg c2] at hl
        refine ite_r (t := false) (by simp [c2]) (fun h => by cases h) (fun _ => ?_)
        simp
        by_cases c3 : u < 21
        · rw [if_pos c3] at hl
          refine ite_r (t := true) (by simp [c3]) (fun _ => ?_) (fun h => by cases h)
          simp [hl]
        · rw [if_neg c3] at hl
          refine ite_r (t := false) (by simp [c3]) (fun h => by cases h) (fun _ => ?_)
          simp [hl]
  · rintro env w' ⟨e0, e5, rfl⟩
    simp [e0]
    have w2 : IntKind.i64.wrap (-(lvN u)) = -(lvN u) := wI (by omega) (by omega)
    by_cases hg0 : g < 0
    · refine ite_r (t := true) (by simp [hg0]) (fun _ => ?_) (fun h => by cases h)
      simp [e5, w2, hg0]
    · refine ite_r (t := false) (by simp; omega) (fun h => by cases h) (fun _ => ?_)
      simp [e5, hg0]

set_option maxHeartbeats 1000000 in
theorem level2_c {w : World} (g d : Int) (hgr : -9223372036854775808 ≤ g ∧ g ≤ 9223372036854775807) : Calls Try.prog 35 [.int .i64 g, .int .i64 d].toArray w (Ret fun r w' => r = .int .i64 (lvlI g d) ∧ w' = w) := by
  refine F_sound c35 (by simp [fc35]) ?_
  simp [fc35, s35]
  refine callp (dep2_c d) (by simp) ?_
  cases hd : dep d
  · simp
    refine ifg_r (t := true) (by simp) (fun h => by cases h) (fun _ => ?_)
    simp
    refine ite_r (t := true) (by simp) (fun _ => ?_) (fun h => by cases h)
    simp [lvlI, hd]
  have hd' := dep_iff.1 hd
  have hp := p2_bd hd'.2
  have s1 := shl_p2 (d := d) (by omega) (by omega)
  have wd : IntKind.u64.wrap d = d := wU (by omega) (by omega)
  have hd0 : 0 ≤ d := by omega
  simp
  refine ifg_r (t := false) (by simp) (fun _ => ?_) (fun h => (h rfl).elim)
  refine callp (far27_c g hgr) (by simp) ?_
  simp [wd, s1]
  refine ⟨hd0, ?_⟩
  by_cases hm : g = -9223372036854775808
  · subst hm
    have w1 : IntKind.i64.wrap 9223372036854775808 = -9223372036854775808 := by decide
    have hfw : farW (-9223372036854775808) = -9223372036854775808 := rfl
    have : lvlI (-9223372036854775808) d = 0 := by rw [lvlI, if_neg (fun h => by omega)]
    refine ite_r (t := true) (by simp [hfw, w1]) (fun _ => ?_) (fun h => by cases h)
    simp [this]
  rw [farW_is hm]
  have w0 : IntKind.i64.wrap (-g) = -g := wI (by omega) (by omega)
  by_cases hg : (-(p2 d) < g ∧ g < p2 d) ∧ g ≠ 0
  rotate_left
  · have : lvlI g d = 0 := by rw [lvlI, if_neg (fun h => hg h.2)]
    have hfg : p2 d ≤ farI g ∨ g = 0 := by unfold farI; split <;> omega
    refine ite_r (t := true) (by simp [w0]; omega) (fun _ => ?_) (fun h => by cases h)
    simp [this]
  have hfg : farI g < p2 d := by unfold farI; split <;> omega
  refine ite_r (t := false) (by simp [w0]; omega) (fun h => by cases h) (fun _ => ?_)
  have e : lvlI g d = if g < 0 then -(lvN (farI g * 256 / p2 d)) else lvN (farI g * 256 / p2 d) := by rw [lvlI, if_pos ⟨hd, hg⟩]
  rw [e]
  simp
  refine callp (far27_c g hgr) (by simp) ?_
  rw [farW_is hm]
  have hf : 0 ≤ farI g ∧ farI g ≤ 65536 := farM_bd (by omega)
  have w1 : IntKind.i64.wrap (farI g * 256) = farI g * 256 := wI (by omega) (by omega)
  have s3 := shr_p2 (farI g * 256) (d := d) (by omega) (by omega)
  have hl : lvN (farI g * 256 / p2 d) = if farI g * 256 / p2 d < 3 then 1 else if farI g * 256 / p2 d < 7 then 2 else if farI g * 256 / p2 d < 21 then 3 else 4 := rfl
  have hb := lvN_bd (farI g * 256 / p2 d)
  simp [w1, wd, s3, hd0]
  generalize farI g * 256 / p2 d = u at *
  refine blk_cut (fun env' w' => env' 0 = .int .i64 g ∧ env' 6 = .int .i64 (lvN u) ∧ w' = w) ?_ ?_
  · simp
    by_cases c1 : u < 3
    · rw [if_pos c1] at hl
      refine ite_r (t := true) (by simp [c1]) (fun _ => ?_) (fun h => by cases h)
      simp [hl]
    · rw [if_neg c1] at hl
      refine ite_r (t := false) (by simp [c1]) (fun h => by cases h) (fun _ => ?_)
      simp
      by_cases c2 : u < 7
      · rw [if_pos c2] at hl
        refine ite_r (t := true) (by simp [c2]) (fun _ => ?_) (fun h => by cases h)
        simp [hl]
      · rw [if_neg c2] at hl
        refine ite_r (t := false) (by simp [c2]) (fun h => by cases h) (fun _ => ?_)
        simp
        by_cases c3 : u < 21
        · rw [if_pos c3] at hl
          refine ite_r (t := true) (by simp [c3]) (fun _ => ?_) (fun h => by cases h)
          simp [hl]
        · rw [if_neg c3] at hl
          refine ite_r (t := false) (by simp [c3]) (fun h => by cases h) (fun _ => ?_)
          simp [hl]
  · rintro env w' ⟨e0, e6, rfl⟩
    simp [e0]
    have w2 : IntKind.i64.wrap (-(lvN u)) = -(lvN u) := wI (by omega) (by omega)
    by_cases hg0 : g < 0
    · refine ite_r (t := true) (by simp [hg0]) (fun _ => ?_) (fun h => by cases h)
      simp [e6, w2, hg0]
    · refine ite_r (t := false) (by simp; omega) (fun h => by cases h) (fun _ => ?_)
      simp [e6, hg0]

end Go.Proofs.Ytcljnpodfhgjkaa.VG
