/-
  Tick: plain, and the small functions.
-/
import Derived.Test.YtflglnigcidmaaaCm
namespace Go.Proofs.Ytflglnigcidmaaa.VG
open Go
set_option linter.unusedSimpArgs false
set_option linter.unusedVariables false

def rV (a b : Int) : Value := .agg #[.int .i64 a, .int .i64 b]
def mayR (a b : Int) : Bool := decide (1 ≤ a) && decide (a ≤ 1048576) && decide (1 ≤ b) && decide (b ≤ 1048576)
theorem mayR_iff {a b : Int} : mayR a b = true ↔ 1 ≤ a ∧ a ≤ 1048576 ∧ 1 ≤ b ∧ b ≤ 1048576 := by simp [mayR, and_assoc]
def cnt (n : Int) : Bool := decide (0 ≤ n) && decide (n ≤ 1099511627776)
theorem cnt_iff {n : Int} : cnt n = true ↔ 0 ≤ n ∧ n ≤ 1099511627776 := by simp [cnt]
theorem rV_cells (a b : Int) : (rV a b).cells = #[.int .i64 a, .int .i64 b] := rfl
theorem r_box {w : World} {b : Nat} {p q : Int} (hb : ∀ o, w.cell? ⟨b, o, none⟩ = (rV p q).cells[o]?) :
    w.cell? ⟨b, 0, none⟩ = some (.int .i64 p) ∧ w.cell? ⟨b, 1, none⟩ = some (.int .i64 q) ∧ (Value.agg (cellsFrom w ⟨b, 0, none⟩ 0 2).toArray) = rV p q := by
  refine ⟨by rw [hb]; rfl, by rw [hb]; rfl, ?_⟩
  rw [cells_blk hb 2 rfl]; rfl
theorem two_ok {w : World} {b : Nat} {p q : Int} (hb : ∀ o, w.cell? ⟨b, o, none⟩ = (rV p q).cells[o]?) : ∀ j, j < 2 → (w.cell? ⟨b, j, none⟩).isSome = true := by
  intro j hj
  rw [hb]
  obtain rfl | rfl : j = 0 ∨ j = 1 := by omega
  all_goals rfl

theorem tmay_c {w : World} (a b : Int) : Calls Try.prog 16 [rV a b].toArray w (Ret fun r w' => r = .bool (mayR a b) ∧ Mod none' w w') := by
  refine F_sound c16 (by simp [fc16]) ?_
  simp [fc16, s16]
  refine box_h (rV a b) (Hp.nil w) (by simp) ?_
  intro b w1 H M1
  obtain ⟨h0, h1, h2⟩ := r_box (H.blk 0 rfl)
  refine ⟨.inl rfl, ?_⟩
  simp (disch := first | omega | (simp [h0, h1, mayR, M1]; done) | (simp [h0, h1, mayR, M1]; omega)) [wI, wU, tmod_nn, tdiv_nn, env0_0, env0_1, env0_2, env0_3, env0_4, env0_5, -env0_apply, wp_ite_t, wp_ite_f, wp_ifg_y, wp_ifg_n, h0, h1, mayR, M1]
theorem tmay2_c {w : World} (a b : Int) : Calls Try.prog 18 [rV a b].toArray w (Ret fun r w' => r = .bool (mayR a b) ∧ Mod none' w w') := by
  refine F_sound c18 (by simp [fc18]) ?_
  simp [fc18, s18]
  refine box_h (rV a b) (Hp.nil w) (by simp) ?_
  intro b w1 H M1
  obtain ⟨h0, h1, h2⟩ := r_box (H.blk 0 rfl)
  refine ⟨.inl rfl, ?_⟩
  simp (disch := first | omega | (simp [h0, h1, mayR, M1]; done) | (simp [h0, h1, mayR, M1]; omega)) [wI, wU, tmod_nn, tdiv_nn, env0_0, env0_1, env0_2, env0_3, env0_4, env0_5, -env0_apply, wp_ite_t, wp_ite_f, wp_ifg_y, wp_ifg_n, h0, h1, mayR, M1]
theorem cnt_c {w : World} (n : Int) : Calls Try.prog 25 [.int .i64 n].toArray w (Ret fun r w' => r = .bool (cnt n) ∧ w' = w) := by
  refine F_sound c25 (by simp [fc25]) ?_
  simp [fc25, s25, cnt]
theorem cnt2_c {w : World} (n : Int) : Calls Try.prog 29 [.int .i64 n].toArray w (Ret fun r w' => r = .bool (cnt n) ∧ w' = w) := by
  refine F_sound c29 (by simp [fc29]) ?_
  simp [fc29, s29, cnt]

def atS (a b n : Int) : Int × Bool := if mayR a b = false ∨ cnt n = false then (0, false) else if 1125899906842624 < n * b / a then (0, false) else (n * b / a, true)

theorem at_c {w : World} (a b n : Int) : Calls Try.prog 13 [rV a b, .int .i64 n].toArray w (Ret fun r w' => r = .tuple #[.int .i64 (atS a b n).1, .bool (atS a b n).2] ∧ Mod none' w w') := by
  refine F_sound c13 (by simp [fc13]) ?_
  simp [fc13, s13]
  refine box_h (rV a b) (Hp.nil w) (by simp) ?_
  intro g w1 H M1
  have hok := two_ok (H.blk 0 rfl)
  obtain ⟨h0, h1, h2⟩ := r_box (H.blk 0 rfl)
  refine ⟨.inl rfl, ?_⟩
  simp [h2]
  refine ⟨hok, ?_⟩
  refine callm (tmay_c a b) (by simp) ?_
  intro w2 M2
  replace H := H.same M2
  obtain ⟨h0, h1, h2⟩ := r_box (H.blk 0 rfl)
  cases hm : mayR a b
  · simp (disch := first | omega | (simp [atS, hm, H.mod]; done) | (simp [atS, hm, H.mod]; omega)) [wI, wU, tmod_nn, tdiv_nn, env0_0, env0_1, env0_2, env0_3, env0_4, env0_5, -env0_apply, wp_ite_t, wp_ite_f, wp_ifg_y, wp_ifg_n, atS, hm, H.mod]
  simp (disch := first | omega | (simp; done) | (simp; omega)) [wI, wU, tmod_nn, tdiv_nn, env0_0, env0_1, env0_2, env0_3, env0_4, env0_5, -env0_apply, wp_ite_t, wp_ite_f, wp_ifg_y, wp_ifg_n]
  refine callp (cnt_c n) (by simp) ?_
  cases hc : cnt n
  · simp (disch := first | omega | (simp [atS, hm, hc, H.mod]; done) | (simp [atS, hm, hc, H.mod]; omega)) [wI, wU, tmod_nn, tdiv_nn, env0_0, env0_1, env0_2, env0_3, env0_4, env0_5, -env0_apply, wp_ite_t, wp_ite_f, wp_ifg_y, wp_ifg_n, atS, hm, hc, H.mod]
  have hm' := mayR_iff.1 hm
  have hc' := cnt_iff.1 hc
  have hb := mul_bd0 hc'.1 hc'.2 (by omega) hm'.2.2.2
  have hd : (n * b).tdiv a = n * b / a := tdiv_nn hb.1
  have hd2 : 0 ≤ n * b / a ∧ n * b / a ≤ n * b := ⟨Int.ediv_nonneg hb.1 (by omega), Int.ediv_le_self _ hb.1⟩
  by_cases hbig : 1125899906842624 < n * b / a
  · simp (disch := first | omega | (simp [atS, hm, hc, H.mod, h0, h1, hd, hbig]; done) | (simp [atS, hm, hc, H.mod, h0, h1, hd, hbig]; omega)) [wI, wU, tmod_nn, tdiv_nn, env0_0, env0_1, env0_2, env0_3, env0_4, env0_5, -env0_apply, wp_ite_t, wp_ite_f, wp_ifg_y, wp_ifg_n, atS, hm, hc, H.mod, h0, h1, hd, hbig]
    omega
  · simp (disch := first | omega | (simp [atS, hm, hc, H.mod, h0, h1, hd, hbig]; done) | (simp [atS, hm, hc, H.mod, h0, h1, hd, hbig]; omega)) [wI, wU, tmod_nn, tdiv_nn, env0_0, env0_1, env0_2, env0_3, env0_4, env0_5, -env0_apply, wp_ite_t, wp_ite_f, wp_ifg_y, wp_ifg_n, atS, hm, hc, H.mod, h0, h1, hd, hbig]
    omega
theorem at2_c {w : World} (a b n : Int) : Calls Try.prog 20 [rV a b, .int .i64 n].toArray w (Ret fun r w' => r = .tuple #[.int .i64 (atS a b n).1, .bool (atS a b n).2] ∧ Mod none' w w') := by
  refine F_sound c20 (by simp [fc20]) ?_
  simp [fc20, s20]
  refine box_h (rV a b) (Hp.nil w) (by simp) ?_
  intro g w1 H M1
  have hok := two_ok (H.blk 0 rfl)
  obtain ⟨h0, h1, h2⟩ := r_box (H.blk 0 rfl)
  refine ⟨.inl rfl, ?_⟩
  simp [h2]
  refine ⟨hok, ?_⟩
  refine callm (tmay2_c a b) (by simp) ?_
  intro w2 M2
  replace H := H.same M2
  obtain ⟨h0, h1, h2⟩ := r_box (H.blk 0 rfl)
  cases hm : mayR a b
  · simp (disch := first | omega | (simp [atS, hm, H.mod]; done) | (simp [atS, hm, H.mod]; omega)) [wI, wU, tmod_nn, tdiv_nn, env0_0, env0_1, env0_2, env0_3, env0_4, env0_5, -env0_apply, wp_ite_t, wp_ite_f, wp_ifg_y, wp_ifg_n, atS, hm, H.mod]
  simp (disch := first | omega | (simp; done) | (simp; omega)) [wI, wU, tmod_nn, tdiv_nn, env0_0, env0_1, env0_2, env0_3, env0_4, env0_5, -env0_apply, wp_ite_t, wp_ite_f, wp_ifg_y, wp_ifg_n]
  refine callp (cnt2_c n) (by simp) ?_
  cases hc : cnt n
  · simp (disch := first | omega | (simp [atS, hm, hc, H.mod]; done) | (simp [atS, hm, hc, H.mod]; omega)) [wI, wU, tmod_nn, tdiv_nn, env0_0, env0_1, env0_2, env0_3, env0_4, env0_5, -env0_apply, wp_ite_t, wp_ite_f, wp_ifg_y, wp_ifg_n, atS, hm, hc, H.mod]
  have hm' := mayR_iff.1 hm
  have hc' := cnt_iff.1 hc
  have hb := mul_bd0 hc'.1 hc'.2 (by omega) hm'.2.2.2
  have hd : (n * b).tdiv a = n * b / a := tdiv_nn hb.1
  have hd2 : 0 ≤ n * b / a ∧ n * b / a ≤ n * b := ⟨Int.ediv_nonneg hb.1 (by omega), Int.ediv_le_self _ hb.1⟩
  by_cases hbig : 1125899906842624 < n * b / a
  · simp (disch := first | omega | (simp [atS, hm, hc, H.mod, h0, h1, hd, hbig]; done) | (simp [atS, hm, hc, H.mod, h0, h1, hd, hbig]; omega)) [wI, wU, tmod_nn, tdiv_nn, env0_0, env0_1, env0_2, env0_3, env0_4, env0_5, -env0_apply, wp_ite_t, wp_ite_f, wp_ifg_y, wp_ifg_n, atS, hm, hc, H.mod, h0, h1, hd, hbig]
    omega
  · simp (disch := first | omega | (simp [atS, hm, hc, H.mod, h0, h1, hd, hbig, H.drew.mod]; done) | (simp [atS, hm, hc, H.mod, h0, h1, hd, hbig, H.drew.mod]; omega)) [wI, wU, tmod_nn, tdiv_nn, env0_0, env0_1, env0_2, env0_3, env0_4, env0_5, -env0_apply, wp_ite_t, wp_ite_f, wp_ifg_y, wp_ifg_n, atS, hm, hc, H.mod, h0, h1, hd, hbig, H.drew.mod]
    omega

def reachS (a b t : Int) : Int := (t * a + b - 1) / b
def countS (a b t : Int) : Int × Bool := if mayR a b = false ∨ cnt t = false then (0, false) else (reachS a b (t + 1), true)
def withinS (a b p q : Int) : Int × Int × Bool := if ((mayR a b = false ∨ cnt p = false) ∨ cnt q = false) ∨ q < p then (0, 0, false) else (reachS a b p, reachS a b q, true)

theorem reach_c {w : World} (a b t : Int) (hm : mayR a b = true) (h0 : 0 ≤ t) (h1 : t ≤ 1099511627777) : Calls Try.prog 26 [rV a b, .int .i64 t].toArray w (Ret fun r w' => r = .int .i64 (reachS a b t) ∧ Mod none' w w') := by
  refine F_sound c26 (by simp [fc26]) ?_
  simp [fc26, s26]
  refine box_h (rV a b) (Hp.nil w) (by simp) ?_
  intro g w1 H M1
  obtain ⟨q0, q1, q2⟩ := r_box (H.blk 0 rfl)
  refine ⟨.inl rfl, ?_⟩
  have hm' := mayR_iff.1 hm
  have hb := mul_bd0 h0 h1 (by omega : 0 ≤ a) hm'.2.1
  have hd : (t * a + b - 1).tdiv b = (t * a + b - 1) / b := tdiv_nn (by omega)
  have hd2 : 0 ≤ (t * a + b - 1) / b ∧ (t * a + b - 1) / b ≤ (t * a + b - 1) := ⟨Int.ediv_nonneg (by omega) (by omega), Int.ediv_le_self _ (by omega)⟩
  simp (disch := first | omega | (simp [q0, q1, hd, reachS, M1, H.drew.mod]; done) | (simp [q0, q1, hd, reachS, M1, H.drew.mod]; omega)) [wI, wU, tmod_nn, tdiv_nn, env0_0, env0_1, env0_2, env0_3, env0_4, env0_5, -env0_apply, wp_ite_t, wp_ite_f, wp_ifg_y, wp_ifg_n, q0, q1, hd, reachS, M1, H.drew.mod]
  omega
theorem count_c {w : World} (a b t : Int) : Calls Try.prog 14 [rV a b, .int .i64 t].toArray w (Ret fun r w' => r = .tuple #[.int .i64 (countS a b t).1, .bool (countS a b t).2] ∧ Mod none' w w') := by
  refine F_sound c14 (by simp [fc14]) ?_
  simp [fc14, s14]
  refine box_h (rV a b) (Hp.nil w) (by simp) ?_
  intro g w1 H M1
  have hok := two_ok (H.blk 0 rfl)
  obtain ⟨h0, h1, h2⟩ := r_box (H.blk 0 rfl)
  refine ⟨.inl rfl, ?_⟩
  simp [h2]
  refine ⟨hok, ?_⟩
  refine callm (tmay_c a b) (by simp) ?_
  intro w2 M2
  replace H := H.same M2
  have hok := two_ok (H.blk 0 rfl)
  obtain ⟨h0, h1, h2⟩ := r_box (H.blk 0 rfl)
  cases hm : mayR a b
  · simp (disch := first | omega | (simp [countS, hm, H.mod]; done) | (simp [countS, hm, H.mod]; omega)) [wI, wU, tmod_nn, tdiv_nn, env0_0, env0_1, env0_2, env0_3, env0_4, env0_5, -env0_apply, wp_ite_t, wp_ite_f, wp_ifg_y, wp_ifg_n, countS, hm, H.mod]
  simp (disch := first | omega | (simp; done) | (simp; omega)) [wI, wU, tmod_nn, tdiv_nn, env0_0, env0_1, env0_2, env0_3, env0_4, env0_5, -env0_apply, wp_ite_t, wp_ite_f, wp_ifg_y, wp_ifg_n]
  refine callp (cnt_c t) (by simp) ?_
  cases hc : cnt t
  · simp (disch := first | omega | (simp [countS, hm, hc, H.mod]; done) | (simp [countS, hm, hc, H.mod]; omega)) [wI, wU, tmod_nn, tdiv_nn, env0_0, env0_1, env0_2, env0_3, env0_4, env0_5, -env0_apply, wp_ite_t, wp_ite_f, wp_ifg_y, wp_ifg_n, countS, hm, hc, H.mod]
  have hc' := cnt_iff.1 hc
  simp (disch := first | omega | (simp [hm, hc, h2]; done) | (simp [hm, hc, h2]; omega)) [wI, wU, tmod_nn, tdiv_nn, env0_0, env0_1, env0_2, env0_3, env0_4, env0_5, -env0_apply, wp_ite_t, wp_ite_f, wp_ifg_y, wp_ifg_n, hm, hc, h2]
  refine ⟨hok, ?_⟩
  refine callm (reach_c a b (t + 1) hm (by omega) (by omega)) (by simp (disch := omega) [wI, wU, tmod_nn, tdiv_nn, env0_0, env0_1, env0_2, env0_3, env0_4, env0_5, -env0_apply]) ?_
  intro w3 M3
  replace H := H.same M3
  simp (disch := first | omega | (simp [countS, hm, hc, H.mod]; done) | (simp [countS, hm, hc, H.mod]; omega)) [wI, wU, tmod_nn, tdiv_nn, env0_0, env0_1, env0_2, env0_3, env0_4, env0_5, -env0_apply, wp_ite_t, wp_ite_f, wp_ifg_y, wp_ifg_n, countS, hm, hc, H.mod]
theorem within_c {w : World} (a b p q : Int) : Calls Try.prog 22 [rV a b, .int .i64 p, .int .i64 q].toArray w (Ret fun r w' => r = .tuple #[.int .i64 (withinS a b p q).1, .int .i64 (withinS a b p q).2.1, .bool (withinS a b p q).2.2] ∧ Mod none' w w') := by
  refine F_sound c22 (by simp [fc22]) ?_
  simp [fc22, s22]
  refine box_h (rV a b) (Hp.nil w) (by simp) ?_
  intro g w1 H M1
  have hok := two_ok (H.blk 0 rfl)
  obtain ⟨h0, h1, h2⟩ := r_box (H.blk 0 rfl)
  refine ⟨.inl rfl, ?_⟩
  simp [h2]
  refine ⟨hok, ?_⟩
  refine callm (tmay_c a b) (by simp) ?_
  intro w2 M2
  replace H := H.same M2
  have hok := two_ok (H.blk 0 rfl)
  obtain ⟨h0, h1, h2⟩ := r_box (H.blk 0 rfl)
  cases hm : mayR a b
  · simp (disch := first | omega | (simp [withinS, hm, H.mod]; done) | (simp [withinS, hm, H.mod]; omega)) [wI, wU, tmod_nn, tdiv_nn, env0_0, env0_1, env0_2, env0_3, env0_4, env0_5, -env0_apply, wp_ite_t, wp_ite_f, wp_ifg_y, wp_ifg_n, withinS, hm, H.mod]
  simp (disch := first | omega | (simp; done) | (simp; omega)) [wI, wU, tmod_nn, tdiv_nn, env0_0, env0_1, env0_2, env0_3, env0_4, env0_5, -env0_apply, wp_ite_t, wp_ite_f, wp_ifg_y, wp_ifg_n]
  refine callp (cnt_c p) (by simp) ?_
  cases hc : cnt p
  · simp (disch := first | omega | (simp [withinS, hm, hc, H.mod]; done) | (simp [withinS, hm, hc, H.mod]; omega)) [wI, wU, tmod_nn, tdiv_nn, env0_0, env0_1, env0_2, env0_3, env0_4, env0_5, -env0_apply, wp_ite_t, wp_ite_f, wp_ifg_y, wp_ifg_n, withinS, hm, hc, H.mod]
  simp (disch := first | omega | (simp; done) | (simp; omega)) [wI, wU, tmod_nn, tdiv_nn, env0_0, env0_1, env0_2, env0_3, env0_4, env0_5, -env0_apply, wp_ite_t, wp_ite_f, wp_ifg_y, wp_ifg_n]
  refine callp (cnt_c q) (by simp) ?_
  cases hq : cnt q
  · simp (disch := first | omega | (simp [withinS, hm, hc, hq, H.mod]; done) | (simp [withinS, hm, hc, hq, H.mod]; omega)) [wI, wU, tmod_nn, tdiv_nn, env0_0, env0_1, env0_2, env0_3, env0_4, env0_5, -env0_apply, wp_ite_t, wp_ite_f, wp_ifg_y, wp_ifg_n, withinS, hm, hc, hq, H.mod]
  by_cases hpq : q < p
  · simp (disch := first | omega | (simp [withinS, hm, hc, hq, hpq, H.mod]; done) | (simp [withinS, hm, hc, hq, hpq, H.mod]; omega)) [wI, wU, tmod_nn, tdiv_nn, env0_0, env0_1, env0_2, env0_3, env0_4, env0_5, -env0_apply, wp_ite_t, wp_ite_f, wp_ifg_y, wp_ifg_n, withinS, hm, hc, hq, hpq, H.mod]
  have hc' := cnt_iff.1 hc
  have hq' := cnt_iff.1 hq
  simp (disch := first | omega | (simp [hm, hc, h2, hpq]; done) | (simp [hm, hc, h2, hpq]; omega)) [wI, wU, tmod_nn, tdiv_nn, env0_0, env0_1, env0_2, env0_3, env0_4, env0_5, -env0_apply, wp_ite_t, wp_ite_f, wp_ifg_y, wp_ifg_n, hm, hc, h2, hpq]
  refine ⟨hok, ?_⟩
  replace H := H.drew
  refine call_r _ (reach_c a b p hm (by omega) (by omega)) (by simp (disch := omega) [wI, wU, tmod_nn, tdiv_nn, env0_0, env0_1, env0_2, env0_3, env0_4, env0_5, -env0_apply]) ?_
  rintro r w3 ⟨rfl, M3⟩
  have H0 := H
  replace H := H.same M3
  refine ⟨by simp [promOk]; exact same_blk (H0.blk 0 rfl) (H.blk 0 rfl), ?_⟩
  refine callm (reach_c a b q hm (by omega) (by omega)) (by simp (disch := omega) [wI, wU, tmod_nn, tdiv_nn, env0_0, env0_1, env0_2, env0_3, env0_4, env0_5, -env0_apply]) ?_
  intro w4 M4
  replace H := H.same M4
  simp (disch := first | omega | (simp [withinS, hm, hc, hq, hpq, H.mod]; done) | (simp [withinS, hm, hc, hq, hpq, H.mod]; omega)) [wI, wU, tmod_nn, tdiv_nn, env0_0, env0_1, env0_2, env0_3, env0_4, env0_5, -env0_apply, wp_ite_t, wp_ite_f, wp_ifg_y, wp_ifg_n, withinS, hm, hc, hq, hpq, H.mod]

theorem count2_plain (a b t : Int) (hb : 1 ≤ b) : ((t + 1) * a - 1) / b + 1 = reachS a b (t + 1) := by
  unfold reachS
  rw [show (t + 1) * a + b - 1 = ((t + 1) * a - 1) + 1 * b by omega, Int.add_mul_ediv_right _ _ (by omega)]
theorem count2_c {w : World} (a b t : Int) : Calls Try.prog 21 [rV a b, .int .i64 t].toArray w (Ret fun r w' => r = .tuple #[.int .i64 (countS a b t).1, .bool (countS a b t).2] ∧ Mod none' w w') := by
  refine F_sound c21 (by simp [fc21]) ?_
  simp [fc21, s21]
  refine box_h (rV a b) (Hp.nil w) (by simp) ?_
  intro g w1 H M1
  have hok := two_ok (H.blk 0 rfl)
  obtain ⟨h0, h1, h2⟩ := r_box (H.blk 0 rfl)
  refine ⟨.inl rfl, ?_⟩
  simp [h2]
  refine ⟨hok, ?_⟩
  refine callm (tmay2_c a b) (by simp) ?_
  intro w2 M2
  replace H := H.same M2
  obtain ⟨h0, h1, h2⟩ := r_box (H.blk 0 rfl)
  cases hm : mayR a b
  · simp (disch := first | omega | (simp [countS, hm, H.mod]; done) | (simp [countS, hm, H.mod]; omega)) [wI, wU, tmod_nn, tdiv_nn, env0_0, env0_1, env0_2, env0_3, env0_4, env0_5, -env0_apply, wp_ite_t, wp_ite_f, wp_ifg_y, wp_ifg_n, countS, hm, H.mod]
  simp (disch := first | omega | (simp; done) | (simp; omega)) [wI, wU, tmod_nn, tdiv_nn, env0_0, env0_1, env0_2, env0_3, env0_4, env0_5, -env0_apply, wp_ite_t, wp_ite_f, wp_ifg_y, wp_ifg_n]
  refine callp (cnt2_c t) (by simp) ?_
  cases hc : cnt t
  · simp (disch := first | omega | (simp [countS, hm, hc, H.mod]; done) | (simp [countS, hm, hc, H.mod]; omega)) [wI, wU, tmod_nn, tdiv_nn, env0_0, env0_1, env0_2, env0_3, env0_4, env0_5, -env0_apply, wp_ite_t, wp_ite_f, wp_ifg_y, wp_ifg_n, countS, hm, hc, H.mod]
  have hm' := mayR_iff.1 hm
  have hc' := cnt_iff.1 hc
  have hb := mul_bd0 (a := t + 1) (by omega) (by omega : t + 1 ≤ 1099511627777) (by omega : 0 ≤ a) hm'.2.1
  have hb1 : 1 ≤ (t + 1) * a := by have := Int.mul_le_mul (show (1 : Int) ≤ t + 1 by omega) hm'.1 (by omega) (by omega); omega
  have hd : ((t + 1) * a - 1).tdiv b = ((t + 1) * a - 1) / b := tdiv_nn (by omega)
  have hd2 : 0 ≤ ((t + 1) * a - 1) / b ∧ ((t + 1) * a - 1) / b ≤ (t + 1) * a - 1 := ⟨Int.ediv_nonneg (by omega) (by omega), Int.ediv_le_self _ (by omega)⟩
  have hpl := count2_plain a b t hm'.2.2.1
  simp (disch := first | omega | (simp [countS, hm, hc, H.mod, h0, h1, hd, H.drew.mod, hpl]; done) | (simp [countS, hm, hc, H.mod, h0, h1, hd, H.drew.mod, hpl]; omega)) [wI, wU, tmod_nn, tdiv_nn, env0_0, env0_1, env0_2, env0_3, env0_4, env0_5, -env0_apply, wp_ite_t, wp_ite_f, wp_ifg_y, wp_ifg_n, countS, hm, hc, H.mod, h0, h1, hd, H.drew.mod, hpl]
  omega
theorem reach_zero (a b : Int) (hb : 1 ≤ b) : reachS a b 0 = 0 := by
  unfold reachS
  rw [Int.zero_mul, Int.zero_add]
  exact Int.ediv_eq_zero_of_lt (by omega) (by omega)
theorem ahead_c {w : World} (a b t : Int) (hm : mayR a b = true) (hc : cnt t = true) : Calls Try.prog 30 [rV a b, .int .i64 t].toArray w (Ret fun r w' => r = .int .i64 (reachS a b t) ∧ Mod none' w w') := by
  refine F_sound c30 (by simp [fc30]) ?_
  simp [fc30, s30]
  refine box_h (rV a b) (Hp.nil w) (by simp) ?_
  intro g w1 H M1
  have hok := two_ok (H.blk 0 rfl)
  obtain ⟨h0, h1, h2⟩ := r_box (H.blk 0 rfl)
  have hm' := mayR_iff.1 hm
  have hc' := cnt_iff.1 hc
  refine ⟨.inl rfl, ?_⟩
  simp [h2]
  refine ⟨hok, ?_⟩
  refine callm (count2_c a b (t - 1)) (by simp (disch := omega) [wI, wU, tmod_nn, tdiv_nn, env0_0, env0_1, env0_2, env0_3, env0_4, env0_5, -env0_apply]) ?_
  intro w2 M2
  replace H := H.same M2
  simp (disch := first | omega | (simp [H.mod]; done) | (simp [H.mod]; omega)) [wI, wU, tmod_nn, tdiv_nn, env0_0, env0_1, env0_2, env0_3, env0_4, env0_5, -env0_apply, wp_ite_t, wp_ite_f, wp_ifg_y, wp_ifg_n, H.mod]
  unfold countS
  by_cases ht : t = 0
  · subst ht
    rw [if_pos (.inr (by decide)), reach_zero a b hm'.2.2.1]
  · rw [if_neg (by rw [hm, (cnt_iff (n := t - 1)).2 (by omega)]; simp), show t - 1 + 1 = t by omega]
theorem within2_c {w : World} (a b p q : Int) : Calls Try.prog 23 [rV a b, .int .i64 p, .int .i64 q].toArray w (Ret fun r w' => r = .tuple #[.int .i64 (withinS a b p q).1, .int .i64 (withinS a b p q).2.1, .bool (withinS a b p q).2.2] ∧ Mod none' w w') := by
  refine F_sound c23 (by simp [fc23]) ?_
  simp [fc23, s23]
  refine box_h (rV a b) (Hp.nil w) (by simp) ?_
  intro g w1 H M1
  have hok := two_ok (H.blk 0 rfl)
  obtain ⟨h0, h1, h2⟩ := r_box (H.blk 0 rfl)
  refine ⟨.inl rfl, ?_⟩
  simp [h2]
  refine ⟨hok, ?_⟩
  refine callm (tmay2_c a b) (by simp) ?_
  intro w2 M2
  replace H := H.same M2
  have hok := two_ok (H.blk 0 rfl)
  obtain ⟨h0, h1, h2⟩ := r_box (H.blk 0 rfl)
  cases hm : mayR a b
  · simp (disch := first | omega | (simp [withinS, hm, H.mod]; done) | (simp [withinS, hm, H.mod]; omega)) [wI, wU, tmod_nn, tdiv_nn, env0_0, env0_1, env0_2, env0_3, env0_4, env0_5, -env0_apply, wp_ite_t, wp_ite_f, wp_ifg_y, wp_ifg_n, withinS, hm, H.mod]
  simp (disch := first | omega | (simp; done) | (simp; omega)) [wI, wU, tmod_nn, tdiv_nn, env0_0, env0_1, env0_2, env0_3, env0_4, env0_5, -env0_apply, wp_ite_t, wp_ite_f, wp_ifg_y, wp_ifg_n]
  refine callp (cnt2_c p) (by simp) ?_
  cases hc : cnt p
  · simp (disch := first | omega | (simp [withinS, hm, hc, H.mod]; done) | (simp [withinS, hm, hc, H.mod]; omega)) [wI, wU, tmod_nn, tdiv_nn, env0_0, env0_1, env0_2, env0_3, env0_4, env0_5, -env0_apply, wp_ite_t, wp_ite_f, wp_ifg_y, wp_ifg_n, withinS, hm, hc, H.mod]
  simp (disch := first | omega | (simp; done) | (simp; omega)) [wI, wU, tmod_nn, tdiv_nn, env0_0, env0_1, env0_2, env0_3, env0_4, env0_5, -env0_apply, wp_ite_t, wp_ite_f, wp_ifg_y, wp_ifg_n]
  refine callp (cnt2_c q) (by simp) ?_
  cases hq : cnt q
  · simp (disch := first | omega | (simp [withinS, hm, hc, hq, H.mod]; done) | (simp [withinS, hm, hc, hq, H.mod]; omega)) [wI, wU, tmod_nn, tdiv_nn, env0_0, env0_1, env0_2, env0_3, env0_4, env0_5, -env0_apply, wp_ite_t, wp_ite_f, wp_ifg_y, wp_ifg_n, withinS, hm, hc, hq, H.mod]
  by_cases hpq : q < p
  · simp (disch := first | omega | (simp [withinS, hm, hc, hq, hpq, H.mod]; done) | (simp [withinS, hm, hc, hq, hpq, H.mod]; omega)) [wI, wU, tmod_nn, tdiv_nn, env0_0, env0_1, env0_2, env0_3, env0_4, env0_5, -env0_apply, wp_ite_t, wp_ite_f, wp_ifg_y, wp_ifg_n, withinS, hm, hc, hq, hpq, H.mod]
  have hc' := cnt_iff.1 hc
  have hq' := cnt_iff.1 hq
  simp (disch := first | omega | (simp [hm, hc, h2, hpq]; done) | (simp [hm, hc, h2, hpq]; omega)) [wI, wU, tmod_nn, tdiv_nn, env0_0, env0_1, env0_2, env0_3, env0_4, env0_5, -env0_apply, wp_ite_t, wp_ite_f, wp_ifg_y, wp_ifg_n, hm, hc, h2, hpq]
  refine ⟨hok, ?_⟩
  replace H := H.drew
  refine call_r _ (ahead_c a b p hm hc) (by simp (disch := omega) [wI, wU, tmod_nn, tdiv_nn, env0_0, env0_1, env0_2, env0_3, env0_4, env0_5, -env0_apply]) ?_
  rintro r w3 ⟨rfl, M3⟩
  have H0 := H
  replace H := H.same M3
  refine ⟨by simp [promOk]; exact same_blk (H0.blk 0 rfl) (H.blk 0 rfl), ?_⟩
  refine callm (ahead_c a b q hm hq) (by simp (disch := omega) [wI, wU, tmod_nn, tdiv_nn, env0_0, env0_1, env0_2, env0_3, env0_4, env0_5, -env0_apply]) ?_
  intro w4 M4
  replace H := H.same M4
  simp (disch := first | omega | (simp [withinS, hm, hc, hq, hpq, H.mod]; done) | (simp [withinS, hm, hc, hq, hpq, H.mod]; omega)) [wI, wU, tmod_nn, tdiv_nn, env0_0, env0_1, env0_2, env0_3, env0_4, env0_5, -env0_apply, wp_ite_t, wp_ite_f, wp_ifg_y, wp_ifg_n, withinS, hm, hc, hq, hpq, H.mod]

end Go.Proofs.Ytflglnigcidmaaa.VG
