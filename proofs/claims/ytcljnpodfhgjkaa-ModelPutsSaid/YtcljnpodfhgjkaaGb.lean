/-
  Guesses: one guess.
-/
import Derived.Test.YtcljnpodfhgjkaaGa
namespace Go.Proofs.Ytcljnpodfhgjkaa.VG
open Go
set_option linter.unusedSimpArgs false
set_option linter.unusedVariables false
set_option maxRecDepth 20000

theorem dist_c {w : World} (a b : Int) (ha : -4611686018427387904 ≤ a ∧ a ≤ 4611686018427387903) (hb : -4611686018427387904 ≤ b ∧ b ≤ 4611686018427387903) : Calls Try.prog 96 [.int .i64 a, .int .i64 b].toArray w (Ret fun r w' => r = .int .i64 (farI (a - b)) ∧ w' = w) := by
  refine F_sound c96 (by simp [fc96]) ?_
  simp [fc96, s96]
  have w1 : IntKind.i64.wrap (b - a) = b - a := wI (by omega) (by omega)
  have w2 : IntKind.i64.wrap (a - b) = a - b := wI (by omega) (by omega)
  unfold farI
  by_cases h : a < b
  · refine ite_r (t := true) (by simp [h]) (fun _ => ?_) (fun h => by cases h)
    simp [w1]
    rw [if_pos (by omega)]; omega
  · refine ite_r (t := false) (by simp [h]) (fun h => by cases h) (fun _ => ?_)
    simp [w2]
    omega
theorem far2_c {w : World} (x : Int) (ha : -9223372036854775807 ≤ x ∧ x ≤ 9223372036854775807) : Calls Try.prog 99 [.int .i64 x].toArray w (Ret fun r w' => r = .int .i64 (farI x) ∧ w' = w) := by
  refine F_sound c99 (by simp [fc99]) ?_
  have w1 : IntKind.i64.wrap (-x) = -x := wI (by omega) (by omega)
  simp [fc99, s99, w1]
  unfold farI
  split <;> split <;> omega
theorem within2_c {G : Nat → Prop} {w : World} {v : Value} {l : List Int} (d : Int) (h : Rd G w v l.length (intsV l)) (hl : l.length ≤ maxLen) (hd : dep d = true) : Calls Try.prog 65 [v, .int .i64 d].toArray w (Ret fun r w' => r = .bool (l.all (inD d)) ∧ w' = w) := by
  refine F_sound c65 (by simp [fc65]) ?_
  obtain ⟨hS, hL⟩ := h.sl
  have hd' := dep_iff.1 hd
  have hp := p2_bd hd'.2
  have hs := shl_p2 (d := d) (by omega) (by omega)
  have wd : IntKind.u64.wrap d = d := wU (by omega) (by omega)
  have hll : (l.length : Int) ≤ 9223372036854775807 := by unfold maxLen at hl; omega
  simp [fc65, s65]
  refine for_r l.length (fun i env' w' => env' 0 = v ∧ env' 1 = .int .i64 d ∧ env' 5 = .int .i64 i ∧ (l.take i).all (inD d) = true ∧ w' = w) ?_ ?_ ?_
  · simp
  · rintro i env w' hi ⟨e0, e1, e5, hall, rfl⟩
    simp [e0, e5, hS, hL]
    refine ite_r (t := true) (by simp; omega) (fun _ => ?_) (fun h => by cases h)
    simp [wp_blk]
    have hg := h.gi i hi
    have hp1 := h.some (by omega)
    simp [e0, e1, e5, hS, hL, hi, hg, hp1, wd, hs]
    have hat : (l.take (i + 1)).all (inD d) = inD d (gi l i) := by rw [gi_take_snoc l i hi, List.all_append, hall]; simp
    have hno : inD d (gi l i) = false → l.all (inD d) = false := fun hf => by
      rw [List.all_eq_false]
      exact ⟨_, gi_mem l i hi, by simp [hf]⟩
    generalize gi l i = x at *
    have hw1 : IntKind.i64.wrap ((i : Int) + 1) = ((i + 1 : Nat) : Int) := by rw [wI (by omega) (by omega)]; omega
    refine ⟨fun _ => by omega, ?_⟩
    cases hx : inD d x
    · have : ¬ (0 ≤ x ∧ x < p2 d) := by rw [← inD_iff, hx]; simp
      refine ite_r (t := true) (by simp; omega) (fun _ => ?_) (fun h => by cases h)
      simp
      have := hno hx
      simpa using this
    · have := inD_iff.1 hx
      refine ite_r (t := false) (by simp; omega) (fun h => by cases h) (fun _ => ?_)
      simp [-Int.natCast_add, hw1, e0, e1, e5]
      rw [← List.all_eq_true, hat, hx]
      exact ⟨by omega, rfl⟩
  · rintro env w' ⟨e0, e1, e5, hall, rfl⟩
    simp [e0, e5, hS, hL]
    refine ite_r (t := false) (by simp) (fun h => by cases h) (fun _ => ?_)
    simp
    rw [List.take_length] at hall
    simpa using hall

theorem near3_c {G : Nat → Prop} {w : World} {v : Value} (g a b c : Int) (h : Rd G w v 3 (intsV [a, b, c])) (hg : -1099511627776 ≤ g ∧ g ≤ 1099511627776) (ha : -1099511627776 ≤ a ∧ a ≤ 1099511627776) (hb : -1099511627776 ≤ b ∧ b ≤ 1099511627776) (hc : -1099511627776 ≤ c ∧ c ≤ 1099511627776) :
    Calls Try.prog 80 [.int .i64 g, v].toArray w (Ret fun r w' => r = .int .i64 (near3 g a b c) ∧ w' = w) := by
  refine F_sound c80 (by simp [fc80]) ?_
  obtain ⟨hS, hL⟩ := h.sl
  have g0 := h.gi 0 (by simp)
  have g1 := h.gi 1 (by simp)
  have g2 := h.gi 2 (by simp)
  have hp := h.some (by simp)
  rw [add_zero] at g0
  simp [gi] at g0 g1 g2
  have q1 : IntKind.i64.wrap 1 = 1 := by decide
  have q2 : IntKind.i64.wrap 2 = 2 := by decide
  have q3 : IntKind.i64.wrap 3 = 3 := by decide
  simp [fc80, s80, hS, hL, g0, hp]
  refine for_r 3 (fun i env' w' => env' 0 = .int .i64 g ∧ env' 11 = v ∧ env' 12 = .int .i64 3 ∧ env' 13 = .int .i64 i ∧ env' 5 = .int .i64 (if i < 2 then a else if i < 3 then (if farI (b - g) < farI (a - g) then b else a) else near3 g a b c) ∧ w' = w) ?_ ?_ ?_
  · simp [hL]
  · rintro i env w' hi ⟨e0, e11, e12, e13, e5, rfl⟩
    simp [e12, e13]
    refine ite_r (t := true) (by simp; omega) (fun _ => ?_) (fun h => by cases h)
    simp [wp_blk]
    obtain rfl | rfl | rfl : i = 0 ∨ i = 1 ∨ i = 2 := by omega
    · simp [e11, e13, hS, hL, g0, hp]
      simp at e5
      refine callp (dist_c a g (by omega) (by omega)) (by simp [e0]) ?_
      refine callp (dist_c a g (by omega) (by omega)) (by simp [e0, e5]) ?_
      simp
      refine ite_r (t := false) (by simp) (fun h => by cases h) (fun _ => ?_)
      simp [e0, e11, e12, e13, e5, q1]
    · simp [e11, e13, hS, hL, g1, hp]
      simp at e5
      refine callp (dist_c b g (by omega) (by omega)) (by simp [e0]) ?_
      refine callp (dist_c a g (by omega) (by omega)) (by simp [e0, e5]) ?_
      simp
      by_cases hc : farI (b - g) < farI (a - g)
      · refine ite_r (t := true) (by simp [hc]) (fun _ => ?_) (fun h => by cases h)
        simp [e0, e11, e12, e13, hc, q2]
      · refine ite_r (t := false) (by simp [hc]) (fun h => by cases h) (fun _ => ?_)
        simp [e0, e11, e12, e13, e5, hc, q2]
    · simp [e11, e13, hS, hL, g2, hp]
      simp at e5
      refine callp (dist_c c g (by omega) (by omega)) (by simp [e0]) ?_
      refine callp (dist_c (if farI (b - g) < farI (a - g) then b else a) g (by split <;> omega) (by omega)) (by simp [e0, e5]) ?_
      have en : (if farI (c - g) < farI ((if farI (b - g) < farI (a - g) then b else a) - g) then c else (if farI (b - g) < farI (a - g) then b else a)) = near3 g a b c := by
        unfold near3
        by_cases hc : farI (b - g) < farI (a - g)
        · rw [if_pos hc]
          by_cases hc2 : farI (c - g) < farI (b - g)
          · rw [if_pos hc2, if_neg (by omega), if_neg (by omega)]
          · rw [if_neg hc2, if_neg (by omega), if_pos (by omega)]
        · rw [if_neg hc]
          by_cases hc2 : farI (c - g) < farI (a - g)
          · rw [if_pos hc2, if_neg (by omega), if_neg (by omega)]
          · rw [if_neg hc2, if_pos (by omega)]
      generalize (if farI (b - g) < farI (a - g) then b else a) = m at *
      simp
      by_cases hc2 : farI (c - g) < farI (m - g)
      · rw [if_pos hc2] at en
        refine ite_r (t := true) (by simp [hc2]) (fun _ => ?_) (fun h => by cases h)
        simp [e0, e11, e12, e13, q3, ← en]
      · rw [if_neg hc2] at en
        refine ite_r (t := false) (by simp [hc2]) (fun h => by cases h) (fun _ => ?_)
        simp [e0, e11, e12, e13, e5, q3, ← en]
  · rintro env w' ⟨e0, e11, e12, e13, e5, rfl⟩
    simp [e12, e13]
    refine ite_r (t := false) (by simp) (fun h => by cases h) (fun _ => ?_)
    simp at e5
    simp [e5]

theorem all4 {w n a b d : Int} : ([w, n, a, b] : List Int).all (inD d) = true ↔ (0 ≤ w ∧ w < p2 d) ∧ (0 ≤ n ∧ n < p2 d) ∧ (0 ≤ a ∧ a < p2 d) ∧ 0 ≤ b ∧ b < p2 d := by
  simp [inD]

set_option maxHeartbeats 4000000 in
theorem one_c' {w : World} (k x n a b d : Int) : Calls Try.prog 67 [.int .i64 k, .int .i64 x, .int .i64 n, .int .i64 a, .int .i64 b, .int .i64 d].toArray w (Ret fun r w' => r = .int .i64 (oneI k x n a b d) ∧ Mod none' w w') := by
  refine F_sound c67 (by simp [fc67]) ?_
  simp [fc67, s67]
  by_cases hk : (0 ≤ k ∧ k ≤ 9) ∧ dep d = true
  rotate_left
  · have e : oneI k x n a b d = 0 := by rw [oneI, if_neg (fun h => hk ⟨h.1, h.2.1⟩)]
    rw [dep_iff] at hk
    refine ite_r (t := true) (by simp; omega) (fun _ => ?_) (fun h => by cases h)
    simp [e]
    exact Mod.refl _ _
  obtain ⟨hk, hd⟩ := hk
  have hd' := dep_iff.1 hd
  have hp := p2_bd hd'.2
  have hs := shl_p2 (d := d) (by omega) (by omega)
  refine ite_r (t := false) (by simp; omega) (fun h => by cases h) (fun _ => ?_)
  have q0 : IntKind.i64.wrap 0 = 0 := by decide
  have q1 : IntKind.i64.wrap 1 = 1 := by decide
  have q2 : IntKind.i64.wrap 2 = 2 := by decide
  have q3 : IntKind.i64.wrap 3 = 3 := by decide
  have q4 : IntKind.i64.wrap 4 = 4 := by decide
  have bad : ¬ ([x, n, a, b] : List Int).all (inD d) = true → oneI k x n a b d = 0 := fun h => by rw [oneI, if_neg (fun h' => h h'.2.2)]
  rw [all4] at bad
  have good : (0 ≤ x ∧ x < p2 d) ∧ (0 ≤ n ∧ n < p2 d) ∧ (0 ≤ a ∧ a < p2 d) ∧ 0 ≤ b ∧ b < p2 d → oneI k x n a b d = (if k = 1 then x else if k = 2 then n else if k = 3 then a else if k = 4 then b else if k = 5 then (x + n) / 2 else if k = 6 then near3 (x + n - a) x n a
     else if k = 7 then mxI (mnI x n) (mnI (mxI x n) (x + n - a)) else if k = 8 then mnI (mxI (x + n - a) 0) (p2 d - 1) else if k = 9 then (x + n + a + b + 2) / 4 else 0) := fun h => by rw [oneI, if_pos ⟨hk, hd, all4.2 h⟩]
  simp [hd'.1, putAt, Value.cells]
  refine for_r 4 (fun i env' w' => env' 0 = .int .i64 k ∧ env' 1 = .int .i64 x ∧ env' 2 = .int .i64 n ∧ env' 3 = .int .i64 a ∧ env' 4 = .int .i64 b ∧ env' 5 = .int .i64 d ∧ env' 34 = .agg #[.int .i64 x, .int .i64 n, .int .i64 a, .int .i64 b] ∧ env' 35 = .int .i64 i ∧
    ((0 < i → 0 ≤ x ∧ x < p2 d) ∧ (1 < i → 0 ≤ n ∧ n < p2 d) ∧ (2 < i → 0 ≤ a ∧ a < p2 d) ∧ (3 < i → 0 ≤ b ∧ b < p2 d)) ∧ w' = w) ?_ ?_ ?_
  · simp
  · rintro i env w' hi ⟨e0, e1, e2, e3, e4, e5, e34, e35, hall, rfl⟩
    simp [e35]
    refine ite_r (t := true) (by simp; omega) (fun _ => ?_) (fun h => by cases h)
    simp [wp_blk]
    obtain rfl | rfl | rfl | rfl : i = 0 ∨ i = 1 ∨ i = 2 ∨ i = 3 := by omega
    · simp [e5, e34, e35, hs]
      refine ⟨fun _ => by omega, ?_⟩
      by_cases hx : 0 ≤ x ∧ x < p2 d
      · refine ite_r (t := false) (by simp; omega) (fun h => by cases h) (fun _ => ?_)
        simp at hall
        simp [e0, e1, e2, e3, e4, e5, e34, e35, q1, hx, hall]
      · refine ite_r (t := true) (by simp; omega) (fun _ => ?_) (fun h => by cases h)
        simp
        exact ⟨(bad (by omega)).symm, Mod.refl _ _⟩
    · simp [e5, e34, e35, hs]
      refine ⟨fun _ => by omega, ?_⟩
      by_cases hx : 0 ≤ n ∧ n < p2 d
      · refine ite_r (t := false) (by simp; omega) (fun h => by cases h) (fun _ => ?_)
        simp at hall
        simp [e0, e1, e2, e3, e4, e5, e34, e35, q2, hx, hall]
      · refine ite_r (t := true) (by simp; omega) (fun _ => ?_) (fun h => by cases h)
        simp
        exact ⟨(bad (by omega)).symm, Mod.refl _ _⟩
    · simp [e5, e34, e35, hs]
      refine ⟨fun _ => by omega, ?_⟩
      by_cases hx : 0 ≤ a ∧ a < p2 d
      · refine ite_r (t := false) (by simp; omega) (fun h => by cases h) (fun _ => ?_)
        simp at hall
        simp [e0, e1, e2, e3, e4, e5, e34, e35, q3, hx, hall]
      · refine ite_r (t := true) (by simp; omega) (fun _ => ?_) (fun h => by cases h)
        simp
        exact ⟨(bad (by omega)).symm, Mod.refl _ _⟩
    · simp [e5, e34, e35, hs]
      refine ⟨fun _ => by omega, ?_⟩
      by_cases hx : 0 ≤ b ∧ b < p2 d
      · refine ite_r (t := false) (by simp; omega) (fun h => by cases h) (fun _ => ?_)
        simp at hall
        simp [e0, e1, e2, e3, e4, e5, e34, e35, q4, hx, hall]
      · refine ite_r (t := true) (by simp; omega) (fun _ => ?_) (fun h => by cases h)
        simp
        exact ⟨(bad (by omega)).symm, Mod.refl _ _⟩
  · rintro env w' ⟨e0, e1, e2, e3, e4, e5, e34, e35, hall, rfl⟩
    simp [e35]
    refine ite_r (t := false) (by simp) (fun h => by cases h) (fun _ => ?_)
    simp at hall
    obtain ⟨hx, hn, ha, hb⟩ := hall
    rw [good ⟨hx, hn, ha, hb⟩]
    have r1 : IntKind.i64.wrap (x + n) = x + n := wI (by omega) (by omega)
    have r2 : IntKind.i64.wrap (x + n - a) = x + n - a := wI (by omega) (by omega)
    simp [wp_blk, e0, e1, e2, e3, r1, r2]
    by_cases k1 : k = 1
    · refine ite_r (t := true) (by simp [k1]) (fun _ => ?_) (fun h => by cases h)
      simp [k1, e1]
      exact Mod.refl _ _
    refine ite_r (t := false) (by simp [k1]) (fun h => by cases h) (fun _ => ?_)
    simp [k1, e0]
    by_cases k2 : k = 2
    · refine ite_r (t := true) (by simp [k2]) (fun _ => ?_) (fun h => by cases h)
      simp [k2, e2]
      exact Mod.refl _ _
    refine ite_r (t := false) (by simp [k2]) (fun h => by cases h) (fun _ => ?_)
    simp [k2, e0]
    by_cases k3 : k = 3
    · refine ite_r (t := true) (by simp [k3]) (fun _ => ?_) (fun h => by cases h)
      simp [k3, e3]
      exact Mod.refl _ _
    refine ite_r (t := false) (by simp [k3]) (fun h => by cases h) (fun _ => ?_)
    simp [k3, e0]
    by_cases k4 : k = 4
    · refine ite_r (t := true) (by simp [k4]) (fun _ => ?_) (fun h => by cases h)
      simp [k4, e4]
      exact Mod.refl _ _
    refine ite_r (t := false) (by simp [k4]) (fun h => by cases h) (fun _ => ?_)
    simp [k4, e0]
    by_cases k5 : k = 5
    · refine ite_r (t := true) (by simp [k5]) (fun _ => ?_) (fun h => by cases h)
      have t1 : (x + n).tdiv 2 = (x + n) / 2 := Int.tdiv_eq_ediv_of_nonneg (by omega)
      have r3 : IntKind.i64.wrap ((x + n) / 2) = (x + n) / 2 := wI (by omega) (by omega)
      simp [k5, e1, e2, r1, t1, r3]
      exact Mod.refl _ _
    refine ite_r (t := false) (by simp [k5]) (fun h => by cases h) (fun _ => ?_)
    simp [k5, e0]
    by_cases k6 : k = 6
    · refine ite_r (t := true) (by simp [k6]) (fun _ => ?_) (fun h => by cases h)
      refine bs_h slTI (([x, n, a] : List Int).map fun n => .int .i64 n) (Hp.nil w') rfl (by decide) (by simp [e1, e2, e3]) (by simp [Value.cells]) ?_
      intro cv w2 H M2
      refine ⟨.inl rfl, ?_⟩
      rw [flat_ints] at H
      refine callp (near3_c (x + n - a) x n a (H.rd 0 rfl) (by omega) (by omega) (by omega) (by omega)) (by simp) ?_
      simp [k6]
      exact H.mod
    refine ite_r (t := false) (by simp [k6]) (fun h => by cases h) (fun _ => ?_)
    simp [k6, e0]
    by_cases k7 : k = 7
    · refine ite_r (t := true) (by simp [k7]) (fun _ => ?_) (fun h => by cases h)
      simp [k7, e1, e2, mxI, mnI]
      exact ⟨rfl, Mod.refl _ _⟩
    refine ite_r (t := false) (by simp [k7]) (fun h => by cases h) (fun _ => ?_)
    simp [k7, e0]
    by_cases k8 : k = 8
    · refine ite_r (t := true) (by simp [k8]) (fun _ => ?_) (fun h => by cases h)
      have r3 : IntKind.i64.wrap (p2 d - 1) = p2 d - 1 := wI (by omega) (by omega)
      simp [k8, e5, hs, r3, mxI, mnI]
      exact ⟨by omega, rfl, Mod.refl _ _⟩
    refine ite_r (t := false) (by simp [k8]) (fun h => by cases h) (fun _ => ?_)
    simp [k8, e0]
    by_cases k9 : k = 9
    · refine ite_r (t := true) (by simp [k9]) (fun _ => ?_) (fun h => by cases h)
      have r3 : IntKind.i64.wrap (x + n + a) = x + n + a := wI (by omega) (by omega)
      have r4 : IntKind.i64.wrap (x + n + a + b) = x + n + a + b := wI (by omega) (by omega)
      have r5 : IntKind.i64.wrap (x + n + a + b + 2) = x + n + a + b + 2 := wI (by omega) (by omega)
      have t1 : (x + n + a + b + 2).tdiv 4 = (x + n + a + b + 2) / 4 := Int.tdiv_eq_ediv_of_nonneg (by omega)
      have r6 : IntKind.i64.wrap ((x + n + a + b + 2) / 4) = (x + n + a + b + 2) / 4 := wI (by omega) (by omega)
      simp [k9, e1, e2, e3, e4, r1, r3, r4, r5, r6, t1]
      exact Mod.refl _ _
    refine ite_r (t := false) (by simp [k9]) (fun h => by cases h) (fun _ => ?_)
    simp [k9]
    exact Mod.refl _ _

set_option maxHeartbeats 4000000 in
theorem one2_c {w : World} (k x n a b d : Int) : Calls Try.prog 86 [.int .i64 k, .int .i64 x, .int .i64 n, .int .i64 a, .int .i64 b, .int .i64 d].toArray w (Ret fun r w' => r = .int .i64 (oneI k x n a b d) ∧ Mod none' w w') := by
  refine F_sound c86 (by simp [fc86]) ?_
  simp [fc86, s86]
  have e : ¬ ((0 ≤ k ∧ k ≤ 9) ∧ dep d = true ∧ ([x, n, a, b] : List Int).all (inD d) = true) → oneI k x n a b d = 0 := fun h => by rw [oneI, if_neg h]
  by_cases hk : 0 ≤ k ∧ k ≤ 9
  rotate_left
  · have e := e (fun h => hk h.1)
    refine ifg_r (t := true) (by simp; omega) (fun h => by cases h) (fun _ => ?_)
    simp
    refine ⟨fun _ _ => by omega, ?_⟩
    refine ifg_r (t := true) (by simp; omega) (fun h => by cases h) (fun _ => ?_)
    simp
    refine ifg_r (t := true) (by simp; omega) (fun h => by cases h) (fun _ => ?_)
    simp
    refine ⟨fun _ _ => by omega, ?_⟩
    refine ite_r (t := true) (by simp; omega) (fun _ => ?_) (fun h => by cases h)
    simp [e]
    exact Mod.refl _ _
  have hk1 : 0 ≤ k := hk.1
  have hk2 : k ≤ 9 := hk.2
  refine ifg_r (t := false) (by simp; omega) (fun _ => ?_) (fun h => (h rfl).elim)
  refine callp (dep2_c d) (by simp) ?_
  cases hd : dep d
  · have e := e (fun h => by rw [hd] at h; exact absurd h.2.1 (by simp))
    simp
    refine ifg_r (t := true) (by simp) (fun h => by cases h) (fun _ => ?_)
    simp
    refine ifg_r (t := true) (by simp) (fun h => by cases h) (fun _ => ?_)
    simp
    refine ite_r (t := true) (by simp) (fun _ => ?_) (fun h => by cases h)
    simp [e]
    exact Mod.refl _ _
  have hd' := dep_iff.1 hd
  have hp := p2_bd hd'.2
  have hs := shl_p2 (d := d) (by omega) (by omega)
  have wd : IntKind.u64.wrap d = d := wU (by omega) (by omega)
  simp [hk1, hk2]
  refine ifg_r (t := false) (by simp; omega) (fun _ => ?_) (fun h => (h rfl).elim)
  refine bs_h slTI (([x, n, a, b] : List Int).map fun n => .int .i64 n) (Hp.nil w) rfl (by decide) (by simp) (by simp [Value.cells]) ?_
  intro cv w2 H M2
  refine ⟨.inl rfl, ?_⟩
  rw [flat_ints] at H
  simp
  refine ifg_r (t := false) (by simp; omega) (fun _ => ?_) (fun h => (h rfl).elim)
  refine callp (within2_c (l := [x, n, a, b]) d (H.rd 0 rfl) (by unfold maxLen; simp) hd) (by simp) ?_
  cases hall : ([x, n, a, b] : List Int).all (inD d)
  · have e := e (fun h => by rw [hall] at h; exact absurd h.2.2 (by simp))
    simp
    refine ite_r (t := true) (by simp) (fun _ => ?_) (fun h => by cases h)
    simp [e]
    exact H.mod
  obtain ⟨hx, hn, ha, hb⟩ := all4.1 hall
  have good : oneI k x n a b d = (if k = 1 then x else if k = 2 then n else if k = 3 then a else if k = 4 then b else if k = 5 then (x + n) / 2 else if k = 6 then near3 (x + n - a) x n a
     else if k = 7 then mxI (mnI x n) (mnI (mxI x n) (x + n - a)) else if k = 8 then mnI (mxI (x + n - a) 0) (p2 d - 1) else if k = 9 then (x + n + a + b + 2) / 4 else 0) := by rw [oneI, if_pos ⟨hk, hd, hall⟩]
  simp [hk1, hk2]
  refine ite_r (t := false) (by simp; omega) (fun h => by cases h) (fun _ => ?_)
  rw [good]
  have r1 : IntKind.i64.wrap (x + n) = x + n := wI (by omega) (by omega)
  have r2 : IntKind.i64.wrap (x + n - a) = x + n - a := wI (by omega) (by omega)
  simp [wp_blk, r1, r2]
  by_cases k1 : k = 1
  · refine ite_r (t := true) (by simp [k1]) (fun _ => ?_) (fun h => by cases h)
    simp [k1]
    exact H.mod
  refine ite_r (t := false) (by simp [k1]) (fun h => by cases h) (fun _ => ?_)
  simp [k1]
  by_cases k2 : k = 2
  · refine ite_r (t := true) (by simp [k2]) (fun _ => ?_) (fun h => by cases h)
    simp [k2]
    exact H.mod
  refine ite_r (t := false) (by simp [k2]) (fun h => by cases h) (fun _ => ?_)
  simp [k2]
  by_cases k3 : k = 3
  · refine ite_r (t := true) (by simp [k3]) (fun _ => ?_) (fun h => by cases h)
    simp [k3]
    exact H.mod
  refine ite_r (t := false) (by simp [k3]) (fun h => by cases h) (fun _ => ?_)
  simp [k3]
  by_cases k4 : k = 4
  · refine ite_r (t := true) (by simp [k4]) (fun _ => ?_) (fun h => by cases h)
    simp [k4]
    exact H.mod
  refine ite_r (t := false) (by simp [k4]) (fun h => by cases h) (fun _ => ?_)
  simp [k4]
  by_cases k5 : k = 5
  · refine ite_r (t := true) (by simp [k5]) (fun _ => ?_) (fun h => by cases h)
    have t1 : (x + n).tdiv 2 = (x + n) / 2 := Int.tdiv_eq_ediv_of_nonneg (by omega)
    have r3 : IntKind.i64.wrap ((x + n) / 2) = (x + n) / 2 := wI (by omega) (by omega)
    simp [k5, r1, t1, r3]
    exact H.mod
  refine ite_r (t := false) (by simp [k5]) (fun h => by cases h) (fun _ => ?_)
  simp [k5]
  by_cases k6 : k = 6
  · refine ite_r (t := true) (by simp [k6]) (fun _ => ?_) (fun h => by cases h)
    have f1 : IntKind.i64.wrap (x - (x + n - a)) = x - (x + n - a) := wI (by omega) (by omega)
    have f2 : IntKind.i64.wrap (n - (x + n - a)) = n - (x + n - a) := wI (by omega) (by omega)
    have f3 : IntKind.i64.wrap (a - (x + n - a)) = a - (x + n - a) := wI (by omega) (by omega)
    simp [f1, f2, f3]
    refine callp (far2_c (x - (x + n - a)) (by omega)) (by simp [f1]) ?_
    simp [f1, f2, f3]
    refine callp (far2_c (n - (x + n - a)) (by omega)) (by simp [f2]) ?_
    simp [f1, f2, f3]
    have hn3 : near3 (x + n - a) x n a = if farI (x - (x + n - a)) ≤ farI (n - (x + n - a)) ∧ farI (x - (x + n - a)) ≤ farI (a - (x + n - a)) then x else if farI (n - (x + n - a)) ≤ farI (a - (x + n - a)) then n else a := rfl
    by_cases c1 : farI (x - (x + n - a)) ≤ farI (n - (x + n - a))
    · refine ifg_r (t := true) (by simp [c1]) (fun _ => ?_) (fun h => (h rfl).elim)
      refine callp (far2_c (x - (x + n - a)) (by omega)) (by simp [f1]) ?_
      simp [c1, f1, f2, f3]
      refine ifg_r (t := true) (by simp [c1]) (fun _ => ?_) (fun h => (h rfl).elim)
      refine callp (far2_c (a - (x + n - a)) (by omega)) (by simp [f3]) ?_
      simp [c1, f1, f2, f3]
      by_cases c2 : farI (x - (x + n - a)) ≤ farI (a - (x + n - a))
      · rw [if_pos ⟨c1, c2⟩] at hn3
        refine ite_r (t := true) (by simp [c1, c2]) (fun _ => ?_) (fun h => by cases h)
        simp [k6, hn3]
        exact H.mod
      · rw [if_neg (fun h => c2 h.2)] at hn3
        refine ite_r (t := false) (by simp [c1, c2]) (fun h => by cases h) (fun _ => ?_)
        simp [f2, f3]
        refine callp (far2_c (n - (x + n - a)) (by omega)) (by simp [f2]) ?_
        simp [f1, f2, f3]
        refine callp (far2_c (a - (x + n - a)) (by omega)) (by simp [f3]) ?_
        simp
        by_cases c3 : farI (n - (x + n - a)) ≤ farI (a - (x + n - a))
        · rw [if_pos c3] at hn3
          refine ite_r (t := true) (by simp [c3]) (fun _ => ?_) (fun h => by cases h)
          simp [k6, hn3]
          exact H.mod
        · rw [if_neg c3] at hn3
          refine ite_r (t := false) (by simp [c3]) (fun h => by cases h) (fun _ => ?_)
          simp [k6, hn3]
          exact H.mod
    · rw [if_neg (fun h => c1 h.1)] at hn3
      refine ifg_r (t := false) (by simp [c1]) (fun h => by cases h) (fun _ => ?_)
      simp [c1]
      refine ifg_r (t := false) (by simp [c1]) (fun h => by cases h) (fun _ => ?_)
      simp [c1]
      refine ite_r (t := false) (by simp [c1]) (fun h => by cases h) (fun _ => ?_)
      simp [f2, f3]
      refine callp (far2_c (n - (x + n - a)) (by omega)) (by simp [f2]) ?_
      simp [f1, f2, f3]
      refine callp (far2_c (a - (x + n - a)) (by omega)) (by simp [f3]) ?_
      simp
      by_cases c3 : farI (n - (x + n - a)) ≤ farI (a - (x + n - a))
      · rw [if_pos c3] at hn3
        refine ite_r (t := true) (by simp [c3]) (fun _ => ?_) (fun h => by cases h)
        simp [k6, hn3]
        exact H.mod
      · rw [if_neg c3] at hn3
        refine ite_r (t := false) (by simp [c3]) (fun h => by cases h) (fun _ => ?_)
        simp [k6, hn3]
        exact H.mod
  refine ite_r (t := false) (by simp [k6]) (fun h => by cases h) (fun _ => ?_)
  simp [k6]
  by_cases k7 : k = 7
  · refine ite_r (t := true) (by simp [k7]) (fun _ => ?_) (fun h => by cases h)
    simp [k7, mxI, mnI]
    exact ⟨rfl, H.mod⟩
  refine ite_r (t := false) (by simp [k7]) (fun h => by cases h) (fun _ => ?_)
  simp [k7]
  by_cases k8 : k = 8
  · refine ite_r (t := true) (by simp [k8]) (fun _ => ?_) (fun h => by cases h)
    have r3 : IntKind.i64.wrap (p2 d - 1) = p2 d - 1 := wI (by omega) (by omega)
    simp [k8, wd, hs, r3, mxI, mnI]
    exact ⟨by omega, rfl, H.mod⟩
  refine ite_r (t := false) (by simp [k8]) (fun h => by cases h) (fun _ => ?_)
  simp [k8]
  by_cases k9 : k = 9
  · refine ite_r (t := true) (by simp [k9]) (fun _ => ?_) (fun h => by cases h)
    have r3 : IntKind.i64.wrap (x + n + a) = x + n + a := wI (by omega) (by omega)
    have r4 : IntKind.i64.wrap (x + n + a + b) = x + n + a + b := wI (by omega) (by omega)
    have r5 : IntKind.i64.wrap (x + n + a + b + 2) = x + n + a + b + 2 := wI (by omega) (by omega)
    have t1 : (x + n + a + b + 2).tdiv 4 = (x + n + a + b + 2) / 4 := Int.tdiv_eq_ediv_of_nonneg (by omega)
    have r6 : IntKind.i64.wrap ((x + n + a + b + 2) / 4) = (x + n + a + b + 2) / 4 := wI (by omega) (by omega)
    simp [k9, r1, r3, r4, r5, r6, t1]
    exact H.mod
  refine ite_r (t := false) (by simp [k9]) (fun h => by cases h) (fun _ => ?_)
  simp [k9]
  exact H.mod

end Go.Proofs.Ytcljnpodfhgjkaa.VG