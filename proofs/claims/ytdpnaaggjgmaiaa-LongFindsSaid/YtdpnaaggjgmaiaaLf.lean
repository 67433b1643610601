/-
  Long: Find, the program's and the document's: what each call comes to.
-/
import Derived.Test.YtdpnaaggjgmaiaaLe
namespace Go.Proofs.Ytdpnaaggjgmaiaa.VG
open Go
set_option linter.unusedSimpArgs false
set_option linter.unusedVariables false

def dterm (l : List Int) (M g j : Nat) : Int := ((gi l (M + j) - gi l (M + j - g)).natAbs : Int)
def dsum (l : List Int) (M g : Nat) : Nat → Int
  | 0 => 0
  | j + 1 => dsum l M g j + dterm l M g j
def dall (l : List Int) (M g : Nat) : Int := dsum l M g (l.length - M)
def findF (l : List Int) (L M : Nat) : Nat → Int × Int
  | 0 => (0, 0)
  | i + 1 => if i = 0 ∨ dall l M (L + i) < (findF l L M i).2 then (((L + i : Nat) : Int), dall l M (L + i)) else findF l L M i
def findS (l : List Int) (least most : Int) : Int × Int :=
  if ((least < 2 ∨ most < least) ∨ 1024 < most) ∨ 4096 < l.length then (0, 1) else if (l.length : Int) ≤ most then (0, 7) else if allW l = false then (0, 6)
  else ((findF l least.toNat most.toNat (most.toNat - least.toNat + 1)).1, 0)

theorem dterm_bd {l : List Int} (h : allW l = true) (M g j : Nat) (hj : M + j < l.length) : 0 ≤ dterm l M g j ∧ dterm l M g j ≤ 2147483648 := by
  have h1 := allW_gi h (M + j) hj
  have h2 := allW_gi h (M + j - g) (by omega)
  unfold dterm; omega
theorem dsum_bd {l : List Int} (h : allW l = true) (M g : Nat) : ∀ j, M + j ≤ l.length → 0 ≤ dsum l M g j ∧ dsum l M g j ≤ 2147483648 * (j : Int)
  | 0, _ => by simp [dsum]
  | j + 1, hj => by
    have h1 := dsum_bd h M g j (by omega)
    have h2 := dterm_bd h M g j (by omega)
    simp only [dsum]; omega
theorem dall_bd {l : List Int} (h : allW l = true) (M g : Nat) (hM : M ≤ l.length) (hl : l.length ≤ 4096) : 0 ≤ dall l M g ∧ dall l M g ≤ 8796093022208 := by
  have := dsum_bd h M g (l.length - M) (by omega)
  unfold dall; omega
theorem findF_bd {l : List Int} (h : allW l = true) (L M : Nat) (hM : M ≤ l.length) (hl : l.length ≤ 4096) : ∀ i, 0 ≤ (findF l L M i).2 ∧ (findF l L M i).2 ≤ 8796093022208
  | 0 => by simp [findF]
  | i + 1 => by
    simp only [findF]
    split
    · exact dall_bd h M _ hM hl
    · exact findF_bd h L M hM hl i
theorem findF_pos (l : List Int) (L M : Nat) (hL : 1 ≤ L) : ∀ i, 0 < i → (L : Int) ≤ (findF l L M i).1
  | i + 1, _ => by
    simp only [findF]
    split
    · simp; omega
    · rename_i h
      exact findF_pos l L M hL i (by omega)
theorem findF_zero (l : List Int) (L M : Nat) (hL : 1 ≤ L) (i : Nat) : (findF l L M i).1 = 0 ↔ i = 0 := by
  rcases Nat.eq_zero_or_pos i with rfl | h
  · simp [findF]
  · have := findF_pos l L M hL i h
    constructor <;> intro <;> omega

/-- The largest of a number and its opposite. -/
theorem mx_abs (x : Int) : (if x < -x then -x else x) = (x.natAbs : Int) := by split <;> omega

set_option maxHeartbeats 1000000 in
theorem find_c {G : Nat → Prop} {w : World} {v : Value} {l : List Int} (least most : Int) (h : Rd G w v l.length (intsV l)) (hl : l.length ≤ maxLen) :
    Calls Try.prog 18 [v, .int .i64 least, .int .i64 most].toArray w (Ret fun r w' => r = .tuple #[.int .i64 (findS l least most).1, .int .i64 (findS l least most).2] ∧ Mod none' w w') := by
  refine F_sound c18 (by simp [fc18]) ?_
  obtain ⟨hS, hL⟩ := h.sl
  simp [fc18, s18, hS, hL]
  by_cases h1 : ((least < 2 ∨ most < least) ∨ 1024 < most) ∨ 4096 < l.length
  · refine ite_r (t := true) (by simp; omega) (fun _ => ?_) (fun h => by cases h)
    simp [findS, h1, Mod.refl]
  refine ite_r (t := false) (by simp; omega) (fun h => by cases h) (fun _ => ?_)
  simp [hS, hL]
  by_cases h2 : (l.length : Int) ≤ most
  · refine ite_r (t := true) (by simp [h2]) (fun _ => ?_) (fun h => by cases h)
    simp [findS, h1, h2, Mod.refl]
  refine ite_r (t := false) (by simp [h2]) (fun h => by cases h) (fun _ => ?_)
  simp
  refine callp (allWide_c h hl) (by simp) ?_
  simp
  cases hall : allW l
  · refine ite_r (t := true) (by simp) (fun _ => ?_) (fun h => by cases h)
    simp [findS, h1, h2, hall, Mod.refl]
  refine ite_r (t := false) (by simp) (fun h => by cases h) (fun _ => ?_)
  obtain ⟨L, rfl⟩ : ∃ L : Nat, least = L := ⟨least.toNat, by omega⟩
  obtain ⟨M, rfl⟩ : ∃ M : Nat, most = M := ⟨most.toNat, by omega⟩
  have hfs : findS l L M = ((findF l L M (M - L + 1)).1, 0) := by simp only [findS, if_neg h1, if_neg h2, hall]; simp
  rw [hfs]
  simp
  refine for_r (M - L + 1) (fun i env' w' => env' 0 = v ∧ env' 1 = .int .i64 L ∧ env' 2 = .int .i64 M ∧ env' 8 = .int .i64 (findF l L M i).1 ∧ env' 9 = .int .i64 (findF l L M i).2 ∧ env' 10 = .int .i64 ((L + i : Nat) : Int) ∧ Mod none' w w') ?_ ?_ ?_
  · simp [findF, Mod.refl]
  · rintro i env w' hi ⟨e0, e1, e2, e8, e9, e10, m⟩
    simp [e2, e10]
    refine ite_r (t := true) (by simp; omega) (fun _ => ?_) (fun h => by cases h)
    simp [wp_blk, e2]
    refine for_r (l.length - M) (fun j env' w' => env' 0 = v ∧ env' 1 = .int .i64 L ∧ env' 2 = .int .i64 M ∧ env' 8 = .int .i64 (findF l L M i).1 ∧ env' 9 = .int .i64 (findF l L M i).2 ∧ env' 10 = .int .i64 ((L + i : Nat) : Int) ∧
      env' 11 = .int .i64 (dsum l M (L + i) j) ∧ env' 12 = .int .i64 ((M + j : Nat) : Int) ∧ Mod none' w w') ?_ ?_ ?_
    · simp [e0, e1, e2, e8, e9, e10, dsum, m]
    · rintro j env w' hj ⟨e0, e1, e2, e8, e9, e10, e11, e12, m⟩
      have hk : M + j < l.length := by omega
      have hc := (h.at m).gi (M + j) hk
      have hc2 := (h.at m).gi (M + j - (L + i)) (by omega)
      have hp := h.some (by omega)
      have hx : ((M : Int) + j - (L + i)).toNat = M + j - (L + i) := by omega
      have hb1 := allW_gi hall (M + j) hk
      have hb2 := allW_gi hall (M + j - (L + i)) (by omega)
      have hb3 := dsum_bd hall M (L + i) j (by omega)
      have hn : ((M : Int) + j).toNat = M + j := by omega
      simp [e0, e12, hS, hL]
      refine ite_r (t := true) (by simp; omega) (fun _ => ?_) (fun h => by cases h)
      simp (disch := omega) [wI, wU, tmod_nn, tdiv_nn, env0_0, env0_1, env0_2, env0_3, env0_4, env0_5, -env0_apply, wp_blk, e0, e1, e2, e8, e9, e10, e11, e12, hS, hL, hp, hn, hc, hx, hc2, mx_abs]
      refine ⟨by omega, by omega, ?_, by omega, m.drew⟩
      simp [dsum, dterm]
    · rintro env w' ⟨e0, e1, e2, e8, e9, e10, e11, e12, m⟩
      simp [e0, e12, hS, hL]
      refine ite_r (t := false) (by simp; omega) (fun h => by cases h) (fun _ => ?_)
      have hda : dsum l M (L + i) (l.length - M) = dall l M (L + i) := rfl
      simp [e1, e8, e9, e10, e11, hda]
      by_cases hc : i = 0 ∨ dall l M (L + i) < (findF l L M i).2
      · refine ite_r (t := true) (by simp; omega) (fun _ => ?_) (fun h => by cases h)
        simp (disch := omega) [wI, wU, tmod_nn, tdiv_nn, env0_0, env0_1, env0_2, env0_3, env0_4, env0_5, -env0_apply, e0, e1, e2, e10, e11, findF, hc, m, hda]
        omega
      · refine ite_r (t := false) (by simp; omega) (fun h => by cases h) (fun _ => ?_)
        simp (disch := omega) [wI, wU, tmod_nn, tdiv_nn, env0_0, env0_1, env0_2, env0_3, env0_4, env0_5, -env0_apply, e0, e1, e2, e8, e9, e10, findF, hc, m]
        omega
  · rintro env w' ⟨e0, e1, e2, e8, e9, e10, m⟩
    simp [e2, e10]
    refine ite_r (t := false) (by simp; omega) (fun h => by cases h) (fun _ => ?_)
    simp [e8, m]

set_option maxHeartbeats 1000000 in
theorem longFind_c {G : Nat → Prop} {w : World} {v : Value} {l : List Int} (least most : Int) (h : Rd G w v l.length (intsV l)) (hl : l.length ≤ maxLen) :
    Calls Try.prog 20 [v, .int .i64 least, .int .i64 most].toArray w (Ret fun r w' => r = .tuple #[.int .i64 (findS l least most).1, .int .i64 (findS l least most).2] ∧ Mod none' w w') := by
  refine F_sound c20 (by simp [fc20]) ?_
  obtain ⟨hS, hL⟩ := h.sl
  simp [fc20, s20, hS, hL, wp_blk]
  by_cases h1 : ((least < 2 ∨ most < least) ∨ 1024 < most) ∨ 4096 < l.length
  · refine ite_r (t := true) (by simp; omega) (fun _ => ?_) (fun h => by cases h)
    simp [findS, h1, Mod.refl]
  refine ite_r (t := false) (by simp; omega) (fun h => by cases h) (fun _ => ?_)
  simp [hS, hL]
  by_cases h2 : (l.length : Int) ≤ most
  · refine ite_r (t := true) (by simp [h2]) (fun _ => ?_) (fun h => by cases h)
    simp [findS, h1, h2, Mod.refl]
  refine ite_r (t := false) (by simp [h2]) (fun h => by cases h) (fun _ => ?_)
  refine callp (allWide2_c h hl) (by simp) ?_
  simp
  cases hall : allW l
  · refine ite_r (t := true) (by simp) (fun _ => ?_) (fun h => by cases h)
    simp [findS, h1, h2, hall, Mod.refl]
  refine ite_r (t := false) (by simp) (fun h => by cases h) (fun _ => ?_)
  obtain ⟨L, rfl⟩ : ∃ L : Nat, least = L := ⟨least.toNat, by omega⟩
  obtain ⟨M, rfl⟩ : ∃ M : Nat, most = M := ⟨most.toNat, by omega⟩
  have hfs : findS l L M = ((findF l L M (M - L + 1)).1, 0) := by simp only [findS, if_neg h1, if_neg h2, hall]; simp
  have hz := findF_zero l L M (by omega)
  rw [hfs]
  simp
  refine for_r (M - L + 1) (fun i env' w' => env' 0 = v ∧ env' 1 = .int .i64 L ∧ env' 2 = .int .i64 M ∧ env' 8 = .int .i64 (findF l L M i).1 ∧ env' 9 = .int .i64 (findF l L M i).2 ∧ env' 10 = .int .i64 ((L + i : Nat) : Int) ∧ Mod none' w w') ?_ ?_ ?_
  · simp [findF, Mod.refl]
  · rintro i env w' hi ⟨e0, e1, e2, e8, e9, e10, m⟩
    simp [e2, e10]
    refine ite_r (t := true) (by simp; omega) (fun _ => ?_) (fun h => by cases h)
    simp [wp_blk, e2]
    refine for_r (l.length - M) (fun j env' w' => env' 0 = v ∧ env' 1 = .int .i64 L ∧ env' 2 = .int .i64 M ∧ env' 8 = .int .i64 (findF l L M i).1 ∧ env' 9 = .int .i64 (findF l L M i).2 ∧ env' 10 = .int .i64 ((L + i : Nat) : Int) ∧
      env' 11 = .int .i64 (dsum l M (L + i) j) ∧ env' 12 = .int .i64 ((M + j : Nat) : Int) ∧ Mod none' w w') ?_ ?_ ?_
    · simp [e0, e1, e2, e8, e9, e10, dsum, m]
    · rintro j env w' hj ⟨e0, e1, e2, e8, e9, e10, e11, e12, m⟩
      have hk : M + j < l.length := by omega
      have hc := (h.at m).gi (M + j) hk
      have hc2 := (h.at m).gi (M + j - (L + i)) (by omega)
      have hp := h.some (by omega)
      have hx : ((M : Int) + j - (L + i)).toNat = M + j - (L + i) := by omega
      have hb1 := allW_gi hall (M + j) hk
      have hb2 := allW_gi hall (M + j - (L + i)) (by omega)
      have hb3 := dsum_bd hall M (L + i) j (by omega)
      have hn : ((M : Int) + j).toNat = M + j := by omega
      simp [e0, e12, hS, hL]
      refine ite_r (t := true) (by simp; omega) (fun _ => ?_) (fun h => by cases h)
      simp (disch := omega) [wI, wU, tmod_nn, tdiv_nn, env0_0, env0_1, env0_2, env0_3, env0_4, env0_5, -env0_apply, wp_blk, e0, e1, e2, e8, e9, e10, e11, e12, hS, hL, hp, hn, hc, hx, hc2]
      refine ⟨by omega, by omega, ?_⟩
      refine callp (far_c (gi l (M + j) - gi l (M + j - (L + i))) (by omega) (by omega)) (by simp (disch := omega) [wI, wU, tmod_nn, tdiv_nn, env0_0, env0_1, env0_2, env0_3, env0_4, env0_5, -env0_apply]) ?_
      simp (disch := omega) [wI, wU, tmod_nn, tdiv_nn, env0_0, env0_1, env0_2, env0_3, env0_4, env0_5, -env0_apply, e0, e1, e2, e8, e9, e10, e11, e12]
      refine ⟨?_, by omega, m.drew⟩
      simp [dsum, dterm]
    · rintro env w' ⟨e0, e1, e2, e8, e9, e10, e11, e12, m⟩
      simp [e0, e12, hS, hL]
      refine ite_r (t := false) (by simp; omega) (fun h => by cases h) (fun _ => ?_)
      have hda : dsum l M (L + i) (l.length - M) = dall l M (L + i) := rfl
      simp [e1, e8, e9, e10, e11, hda]
      have hz' := hz i
      by_cases hc : i = 0 ∨ dall l M (L + i) < (findF l L M i).2
      · refine ite_r (t := true) (by simp; omega) (fun _ => ?_) (fun h => by cases h)
        simp (disch := omega) [wI, wU, tmod_nn, tdiv_nn, env0_0, env0_1, env0_2, env0_3, env0_4, env0_5, -env0_apply, e0, e1, e2, e10, e11, findF, hc, m, hda]
        omega
      · refine ite_r (t := false) (by simp; omega) (fun h => by cases h) (fun _ => ?_)
        simp (disch := omega) [wI, wU, tmod_nn, tdiv_nn, env0_0, env0_1, env0_2, env0_3, env0_4, env0_5, -env0_apply, e0, e1, e2, e8, e9, e10, findF, hc, m]
        omega
  · rintro env w' ⟨e0, e1, e2, e8, e9, e10, m⟩
    simp [e2, e10]
    refine ite_r (t := false) (by simp; omega) (fun h => by cases h) (fun _ => ?_)
    simp [e8, m]

end Go.Proofs.Ytdpnaaggjgmaiaa.VG
