/-
  Long: small functions: what each call comes to.
-/
import Derived.Test.YtdpnaaggjgmaiaaLa
import Derived.Test.YtdpnaaggjgmaiaaIr
namespace Go.Proofs.Ytdpnaaggjgmaiaa.VG
open Go
set_option linter.unusedSimpArgs false
set_option linter.unusedVariables false

theorem wide_c {w : World} (x : Int) : Calls Try.prog 26 [.int .i64 x].toArray w (Ret fun r w' => r = .bool (wideB x) ∧ w' = w) := by
  refine F_sound c26 (by simp [fc26]) ?_
  simp [fc26, s26, wideB]
theorem wide2_c {w : World} (x : Int) : Calls Try.prog 28 [.int .i64 x].toArray w (Ret fun r w' => r = .bool (wideB x) ∧ w' = w) := by
  refine F_sound c28 (by simp [fc28]) ?_
  simp [fc28, s28, wideB]
theorem far_c {w : World} (x : Int) (h0 : -9223372036854775807 ≤ x) (h1 : x ≤ 9223372036854775807) : Calls Try.prog 29 [.int .i64 x].toArray w (Ret fun r w' => r = .int .i64 x.natAbs ∧ w' = w) := by
  refine F_sound c29 (by simp [fc29]) ?_
  simp [fc29, s29]
  simp (disch := omega) [wI, wU, tmod_nn, tdiv_nn, env0_0, env0_1, env0_2, env0_3, env0_4, env0_5, -env0_apply]
  omega

theorem allWide_c {G : Nat → Prop} {w : World} {v : Value} {l : List Int} (h : Rd G w v l.length (intsV l)) (hl : l.length ≤ maxLen) :
    Calls Try.prog 24 [v].toArray w (Ret fun r w' => r = .bool (allW l) ∧ w' = w) := by
  refine F_sound c24 (by simp [fc24]) ?_
  obtain ⟨hS, hL⟩ := h.sl
  unfold maxLen at hl
  simp [fc24, s24, hS, hL]
  refine for_r l.length (fun i env' w' => env' 5 = v ∧ env' 6 = .int .i64 l.length ∧ env' 7 = .int .i64 i ∧ w' = w ∧ allW (l.take i) = true) ?_ ?_ ?_
  · simp [allW]
  · rintro i env w hi ⟨e5, e6, e7, rfl, ha⟩
    have hc := h.gi i hi
    have hp := h.some (by omega)
    simp [e6, e7]
    refine ite_r (t := true) (by simp [hi]) (fun _ => ?_) (fun h => by cases h)
    simp [wp_blk, e5, e7, hS, hL, hp, hc, hi]
    refine callp (wide_c (gi l i)) (by simp) ?_
    simp
    cases hw : wideB (gi l i)
    · refine ite_r (t := true) (by simp) (fun _ => ?_) (fun h => by cases h)
      simp [allW_not hi hw]
    · refine ite_r (t := false) (by simp) (fun h => by cases h) (fun _ => ?_)
      simp (disch := omega) [wI, wU, tmod_nn, tdiv_nn, env0_0, env0_1, env0_2, env0_3, env0_4, env0_5, -env0_apply, e5, e6, e7]
      rw [allW_take ha hi, hw]
  · rintro env w ⟨e5, e6, e7, rfl, ha⟩
    simp [e6, e7]
    refine ite_r (t := false) (by simp) (fun h => by cases h) (fun _ => ?_)
    rw [List.take_length] at ha
    simp [ha]

theorem allWide2_c {G : Nat → Prop} {w : World} {v : Value} {l : List Int} (h : Rd G w v l.length (intsV l)) (hl : l.length ≤ maxLen) :
    Calls Try.prog 19 [v].toArray w (Ret fun r w' => r = .bool (allW l) ∧ w' = w) := by
  refine F_sound c19 (by simp [fc19]) ?_
  obtain ⟨hS, hL⟩ := h.sl
  unfold maxLen at hl
  simp [fc19, s19, hS, hL]
  refine for_r l.length (fun i env' w' => env' 0 = v ∧ env' 3 = .int .i64 i ∧ w' = w ∧ allW (l.take i) = true) ?_ ?_ ?_
  · simp [allW]
  · rintro i env w hi ⟨e5, e7, rfl, ha⟩
    have hc := h.gi i hi
    have hp := h.some (by omega)
    simp [e5, e7, hS, hL]
    refine ite_r (t := true) (by simp [hi]) (fun _ => ?_) (fun h => by cases h)
    simp [wp_blk, e5, e7, hS, hL, hp, hc, hi]
    refine callp (wide2_c (gi l i)) (by simp) ?_
    simp
    cases hw : wideB (gi l i)
    · refine ite_r (t := true) (by simp) (fun _ => ?_) (fun h => by cases h)
      simp [allW_not hi hw]
    · refine ite_r (t := false) (by simp) (fun h => by cases h) (fun _ => ?_)
      simp (disch := omega) [wI, wU, tmod_nn, tdiv_nn, env0_0, env0_1, env0_2, env0_3, env0_4, env0_5, -env0_apply, e5, e7]
      rw [allW_take ha hi, hw]
  · rintro env w ⟨e5, e7, rfl, ha⟩
    simp [e5, e7, hS, hL]
    refine ite_r (t := false) (by simp) (fun h => by cases h) (fun _ => ?_)
    rw [List.take_length] at ha
    simp [ha]

theorem sameInts_c {F G : Nat → Prop} {w : World} {u v : Value} {l m : List Int} (h : Rd F w u l.length (intsV l)) (k : Rd G w v m.length (intsV m)) (hl : l.length ≤ maxLen) :
    Calls Try.prog 15 [u, v].toArray w (Ret fun r w' => r = .bool (l == m) ∧ Mod none' w w') := by
  refine F_sound c15 (by simp [fc15]) ?_
  obtain ⟨hS, hL⟩ := h.sl
  obtain ⟨kS, kL⟩ := k.sl
  unfold maxLen at hl
  simp [fc15, s15, hS, hL, kS, kL]
  by_cases hlm : l.length = m.length
  · refine ite_r (t := false) (by simp [hlm]) (fun h => by cases h) (fun _ => ?_)
    simp
    refine for_r l.length (fun i env' w' => env' 0 = u ∧ env' 1 = v ∧ env' 5 = .int .i64 i ∧ Mod none' w w' ∧ l.take i = m.take i) ?_ ?_ ?_
    · simp [Mod.refl]
    · rintro i env w' hi ⟨e0, e1, e5, hm, ha⟩
      have hc := (h.at hm).gi i hi
      have hp := h.some (by omega)
      have kc := (k.at hm).gi i (by omega)
      have kp := k.some (by omega)
      have hi' : i < m.length := by omega
      simp [e0, e5, hS, hL]
      refine ite_r (t := true) (by simp [hi]) (fun _ => ?_) (fun h => by cases h)
      simp [wp_blk, e0, e1, e5, hS, hL, hp, hc, hi, kS, kL, kp, kc, hi']
      by_cases he : gi l i = gi m i
      · refine ite_r (t := false) (by simp [he]) (fun h => by cases h) (fun _ => ?_)
        simp (disch := omega) [wI, wU, tmod_nn, tdiv_nn, env0_0, env0_1, env0_2, env0_3, env0_4, env0_5, -env0_apply, e0, e1, e5]
        exact ⟨hm.drew, by rw [gi_take_snoc l i hi, gi_take_snoc m i hi', ha, he]⟩
      · refine ite_r (t := true) (by simp [he]) (fun _ => ?_) (fun h => by cases h)
        simp
        refine ⟨?_, hm.drew⟩
        rintro rfl
        exact he rfl
    · rintro env w' ⟨e0, e1, e5, hm, ha⟩
      simp [e0, e5, hS, hL]
      refine ite_r (t := false) (by simp) (fun h => by cases h) (fun _ => ?_)
      rw [List.take_length, hlm, List.take_length] at ha
      simp [ha, hm]
  · refine ite_r (t := true) (by simp; omega) (fun _ => ?_) (fun h => by cases h)
    simp [Mod.refl]
    rintro rfl
    exact hlm rfl

theorem may_t (t : List Int) (ht : Taps t) : t = [gi t 0, gi t 1, gi t 2] := by
  match t, ht with
  | [a, b, c], _ => rfl

theorem mayB_iff {lag : Int} {t : List Int} (ht : Taps t) : mayB lag t = true ↔ (2 ≤ lag ∧ lag ≤ 1024) ∧ ∀ i, i < 3 → -64 ≤ gi t i ∧ gi t i ≤ 64 := by
  have h3 := ht
  unfold Taps at h3
  have : t.all tapOk = true ↔ ∀ i, i < 3 → -64 ≤ gi t i ∧ gi t i ≤ 64 := by
    rw [List.all_eq_true]
    constructor
    · intro h i hi
      have := h _ (gi_mem t i (by omega))
      simpa [tapOk] using this
    · intro h x hx
      obtain ⟨i, hi, rfl⟩ := List.getElem_of_mem hx
      have := h i (by omega)
      rw [show gi t i = t[i] by simp [gi, hi]] at this
      simpa [tapOk] using this
  rw [mayB, Bool.and_eq_true, this]
  simp

theorem may_c {w : World} (lag : Int) (t : List Int) (ht : Taps t) :
    Calls Try.prog 13 [.int .i64 lag, tapV t].toArray w (Ret fun r w' => r = .bool (mayB lag t) ∧ Mod none' w w') := by
  refine F_sound c13 (by simp [fc13]) ?_
  have h3 := ht
  unfold Taps at h3
  have hiff := mayB_iff (lag := lag) ht
  simp [fc13, s13]
  refine box_h (tapV t) (Hp.nil w) (by simp) ?_
  intro b w1 H M1
  refine ⟨.inl rfl, ?_⟩
  simp
  by_cases hlag : lag < 2 ∨ 1024 < lag
  · refine ite_r (t := true) (by simp; omega) (fun _ => ?_) (fun h => by cases h)
    have hf : mayB lag t = false := by rw [← Bool.not_eq_true, hiff]; omega
    simp [M1, hf]
  · refine ite_r (t := false) (by simp; omega) (fun h => by cases h) (fun _ => ?_)
    have hb := H.blk 0 rfl
    have hcs := cells_blk hb 3 (by simp [tapV, Value.cells, intsV, h3])
    simp [hcs]
    refine ⟨fun j hj => ?_, ?_⟩
    · simp [hb, tapV, Value.cells, intsV, h3, hj]
    refine for_r 3 (fun i env' w' => env' 13 = tapV t ∧ env' 14 = .int .i64 i ∧ w' = w1 ∧ ∀ j, j < i → -64 ≤ gi t j ∧ gi t j ≤ 64) ?_ ?_ ?_
    · simp [tapV, Value.cells]
    · rintro i env w' hi ⟨e13, e14, rfl, ha⟩
      have hg : (intsV t)[i]?.getD undef = .int .i64 (gi t i) := by simp [intsV, gi, h3, hi]
      simp [e14]
      refine ite_r (t := true) (by simp; omega) (fun _ => ?_) (fun h => by cases h)
      simp [wp_blk, e13, e14, tapV, hg, intsV_length, h3]
      refine ⟨by omega, ?_⟩
      by_cases hg : gi t i < -64 ∨ 64 < gi t i
      · refine ite_r (t := true) (by simp [hg]) (fun _ => ?_) (fun h => by cases h)
        have hf : mayB lag t = false := by
          rw [← Bool.not_eq_true, hiff]
          intro h
          have := h.2 i hi
          omega
        simp [M1, hf]
      · refine ite_r (t := false) (by simp; omega) (fun h => by cases h) (fun _ => ?_)
        simp (disch := omega) [wI, wU, tmod_nn, tdiv_nn, env0_0, env0_1, env0_2, env0_3, env0_4, env0_5, -env0_apply, e13, e14, tapV]
        intro j hj
        by_cases hji : j = i
        · subst hji; omega
        · exact ha j (by omega)
    · rintro env w' ⟨e13, e14, rfl, ha⟩
      simp [e14]
      refine ite_r (t := false) (by simp) (fun h => by cases h) (fun _ => ?_)
      simp [M1]
      exact hiff.2 ⟨by omega, ha⟩

end Go.Proofs.Ytdpnaaggjgmaiaa.VG
