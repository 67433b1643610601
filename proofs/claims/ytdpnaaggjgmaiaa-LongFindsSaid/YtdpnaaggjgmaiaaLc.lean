/-
  Long: predictions, Rest and Back: what each call comes to.
-/
import Derived.Test.YtdpnaaggjgmaiaaLb
namespace Go.Proofs.Ytdpnaaggjgmaiaa.VG
open Go
set_option linter.unusedSimpArgs false
set_option linter.unusedVariables false

theorem shr6 (x : Int) : shr .i64 x 6 = x / 64 := shr_i .i64 x 6 (by decide)
theorem slTI : SlT Try.prog 22 3 1 8 := ⟨by kernel_rfl, ⟨_, _, rfl, rfl, rfl, rfl, rfl⟩, by omega⟩
theorem tap_box {w : World} {b : Nat} {t : List Int} (ht : Taps t) (hb : ∀ o, w.cell? ⟨b, o, none⟩ = (tapV t).cells[o]?) :
    (∀ i, i < 3 → w.cell? ⟨b, i, none⟩ = some (.int .i64 (gi t i))) ∧ (cellsFrom w ⟨b, 0, none⟩ 0 3).toArray = (intsV t).toArray := by
  unfold Taps at ht
  refine ⟨fun i hi => ?_, cells_blk hb 3 (by simp [tapV, Value.cells, intsV, ht])⟩
  rw [hb]
  simp [tapV, Value.cells, intsV, gi, ht, hi]

theorem predict_c {G : Nat → Prop} {w : World} {v : Value} {l : List Int} (n : Nat) (lag : Int) (t : List Int) (h : Rd G w v l.length (intsV l)) (hl : l.length ≤ maxLen) (hn : n ≤ l.length) (ht : TapOk t) (hW : Wides l n) (hlag : 2 ≤ lag) (hlag' : lag ≤ 1024) :
    Calls Try.prog 25 [v, .int .i64 n, .int .i64 lag, tapV t].toArray w (Ret fun r w' => r = .int .i64 (guess l n lag t) ∧ Mod none' w w') := by
  refine F_sound c25 (by simp [fc25]) ?_
  obtain ⟨hS, hL⟩ := h.sl
  unfold maxLen at hl
  have h3 := ht.1
  unfold Taps at h3
  simp [fc25, s25]
  refine box_h (tapV t) (Hp.nil w) (by simp) ?_
  intro b w1 H M1
  obtain ⟨hb, hcs⟩ := tap_box ht.1 (H.blk 0 rfl)
  refine ⟨.inl rfl, ?_⟩
  simp [hcs]
  refine ⟨fun j hj => by rw [hb j hj]; rfl, ?_⟩
  refine for_r 3 (fun i env' w' => env' 0 = v ∧ env' 1 = .int .i64 n ∧ env' 2 = .int .i64 lag ∧ env' 13 = tapV t ∧ env' 9 = .int .i64 (psum l n lag t i) ∧ env' 14 = .int .i64 i ∧ w' = w1) ?_ ?_ ?_
  · simp [tapV, psum]
  · rintro i env w' hi ⟨e0, e1, e2, e13, e9, e14, rfl⟩
    have hg : (intsV t)[i]?.getD undef = .int .i64 (gi t i) := by simp [intsV, gi, h3, hi]
    simp [e14]
    refine ite_r (t := true) (by simp; omega) (fun _ => ?_) (fun h => by cases h)
    simp (disch := omega) [wI, wU, tmod_nn, tdiv_nn, env0_0, env0_1, env0_2, env0_3, env0_4, env0_5, -env0_apply, wp_blk, e0, e1, e2, e13, e9, e14, tapV, hg, intsV_length, h3]
    refine ⟨by omega, ?_⟩
    by_cases hat : 0 ≤ (n : Int) - lag - 1 + i
    · refine ite_r (t := true) (by simp; omega) (fun _ => ?_) (fun h => by cases h)
      have hk : ((n : Int) - lag - 1 + i).toNat < l.length := by omega
      have hc := (h.at M1).gi _ hk
      have hp := h.some (by omega)
      have hw1 := hW ((n : Int) - lag - 1 + i).toNat (by omega)
      have hbt := mul_bd (ht.2 i hi).1 (ht.2 i hi).2 (b := gi l ((n : Int) - lag - 1 + i).toNat) (B := 1073741824) (by omega) (by omega)
      have hbp := psum_bd ht hW hlag i (by omega)
      simp (disch := omega) [wI, wU, tmod_nn, tdiv_nn, env0_0, env0_1, env0_2, env0_3, env0_4, env0_5, -env0_apply, e0, e1, e2, e13, e9, e14, hS, hL, hp, hc]
      refine ⟨by omega, by simp [tapV], ?_⟩
      simp [psum, term, hat]
    · refine ite_r (t := false) (by simp; omega) (fun h => by cases h) (fun _ => ?_)
      simp (disch := omega) [wI, wU, tmod_nn, tdiv_nn, env0_0, env0_1, env0_2, env0_3, env0_4, env0_5, -env0_apply, e0, e1, e2, e13, e9, e14, psum, term, hat, tapV]
  · rintro env w' ⟨e0, e1, e2, e13, e9, e14, rfl⟩
    simp [e14]
    refine ite_r (t := false) (by simp) (fun h => by cases h) (fun _ => ?_)
    simp [e9, shr6, guess, M1]

theorem longGuess_c {G : Nat → Prop} {w : World} {v : Value} {l : List Int} (lag : Int) (t : List Int) (h : Rd G w v l.length (intsV l)) (hl : l.length ≤ maxLen) (ht : TapOk t) (hW : Wides l l.length) (hlag : 2 ≤ lag) (hlag' : lag ≤ 1024) :
    Calls Try.prog 27 [v, .int .i64 lag, tapV t].toArray w (Ret fun r w' => r = .int .i64 (guess l l.length lag t) ∧ Mod none' w w') := by
  refine F_sound c27 (by simp [fc27]) ?_
  obtain ⟨hS, hL⟩ := h.sl
  unfold maxLen at hl
  have h3 := ht.1
  unfold Taps at h3
  simp [fc27, s27]
  refine box_h (tapV t) (Hp.nil w) (by simp) ?_
  intro b w1 H M1
  obtain ⟨hb, hcs⟩ := tap_box ht.1 (H.blk 0 rfl)
  refine ⟨.inl rfl, ?_⟩
  simp
  refine for_r 3 (fun i env' w' => env' 0 = v ∧ env' 1 = .int .i64 lag ∧ env' 5 = .pointer (some ⟨b, 0, none⟩) ∧ env' 7 = .int .i64 (psum l l.length lag t i) ∧ env' 8 = .int .i64 i ∧ Hp w w' [.blk b (tapV t).cells]) ?_ ?_ ?_
  · simp [psum]
    exact H
  · rintro i env w' hi ⟨e0, e1, e5, e7, e8, H'⟩
    simp [e8]
    refine ite_r (t := true) (by simp; omega) (fun _ => ?_) (fun h => by cases h)
    simp (disch := omega) [wI, wU, tmod_nn, tdiv_nn, env0_0, env0_1, env0_2, env0_3, env0_4, env0_5, -env0_apply, wp_blk, e0, e1, e5, e7, e8, hS, hL]
    by_cases hat : 0 ≤ (l.length : Int) - lag - 1 + i
    · refine ite_r (t := true) (by simp; omega) (fun _ => ?_) (fun h => by cases h)
      have hk : ((l.length : Int) - lag - 1 + i).toNat < l.length := by omega
      have hc := (h.at H'.mod).gi _ hk
      have hp := h.some (by omega)
      have hw1 := hW ((l.length : Int) - lag - 1 + i).toNat (by omega)
      have hbt := mul_bd (ht.2 i hi).1 (ht.2 i hi).2 (b := gi l ((l.length : Int) - lag - 1 + i).toNat) (B := 1073741824) (by omega) (by omega)
      have hbp := psum_bd ht hW hlag i (by omega)
      have hbi := (tap_box ht.1 (H'.blk 0 rfl)).1 i hi
      simp (disch := omega) [wI, wU, tmod_nn, tdiv_nn, env0_0, env0_1, env0_2, env0_3, env0_4, env0_5, -env0_apply, e0, e1, e5, e7, e8, hS, hL, hp, hc, hbi]
      refine ⟨by omega, by omega, ?_, H'.drew⟩
      simp [psum, term, hat]
    · refine ite_r (t := false) (by simp; omega) (fun h => by cases h) (fun _ => ?_)
      simp (disch := omega) [wI, wU, tmod_nn, tdiv_nn, env0_0, env0_1, env0_2, env0_3, env0_4, env0_5, -env0_apply, e0, e1, e5, e7, e8, psum, term, hat, H']
  · rintro env w' ⟨e0, e1, e5, e7, e8, H'⟩
    simp [e8]
    refine ite_r (t := false) (by simp) (fun h => by cases h) (fun _ => ?_)
    simp [e7, shr6, guess, H'.mod]

theorem longMay_c {w : World} (lag : Int) (t : List Int) (ht : Taps t) :
    Calls Try.prog 14 [.int .i64 lag, tapV t].toArray w (Ret fun r w' => r = .bool (mayB lag t) ∧ Mod none' w w') := by
  refine F_sound c14 (by simp [fc14]) ?_
  have hiff := mayB_iff (lag := lag) ht
  simp [fc14, s14]
  refine box_h (tapV t) (Hp.nil w) (by simp) ?_
  intro b w1 H M1
  obtain ⟨hb, hcs⟩ := tap_box ht (H.blk 0 rfl)
  refine ⟨.inl rfl, ?_⟩
  simp
  refine for_r 3 (fun i env' w' => env' 0 = .int .i64 lag ∧ env' 3 = .pointer (some ⟨b, 0, none⟩) ∧ env' 5 = .int .i64 i ∧ w' = w1 ∧ ∀ j, j < i → -64 ≤ gi t j ∧ gi t j ≤ 64) ?_ ?_ ?_
  · simp
  · rintro i env w' hi ⟨e0, e3, e5, rfl, ha⟩
    have hbi := hb i hi
    simp [e5]
    refine ite_r (t := true) (by simp; omega) (fun _ => ?_) (fun h => by cases h)
    simp (disch := omega) [wI, wU, tmod_nn, tdiv_nn, env0_0, env0_1, env0_2, env0_3, env0_4, env0_5, -env0_apply, wp_blk, e0, e3, e5, hbi]
    refine ⟨by omega, by omega, ?_⟩
    by_cases hg : gi t i < -64 ∨ 64 < gi t i
    · refine ite_r (t := true) (by simp [hg]) (fun _ => ?_) (fun h => by cases h)
      have hf : mayB lag t = false := by
        rw [← Bool.not_eq_true, hiff]
        intro h
        have := h.2 i hi
        omega
      simp [M1, hf]
    · refine ite_r (t := false) (by simp; omega) (fun h => by cases h) (fun _ => ?_)
      simp (disch := omega) [wI, wU, tmod_nn, tdiv_nn, env0_0, env0_1, env0_2, env0_3, env0_4, env0_5, -env0_apply, e0, e3, e5]
      intro j hj
      by_cases hji : j = i
      · subst hji; omega
      · exact ha j (by omega)
  · rintro env w' ⟨e0, e3, e5, rfl, ha⟩
    simp [e5]
    refine ite_r (t := false) (by simp) (fun h => by cases h) (fun _ => ?_)
    simp [e0, M1]
    rw [Bool.eq_iff_iff, hiff]
    simp
    exact fun _ _ => ha

end Go.Proofs.Ytdpnaaggjgmaiaa.VG
