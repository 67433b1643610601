/-
  Guesses: the law of neighbours.
-/
import Derived.Test.YtifdamadeleigaaGj
namespace Go.Proofs.Ytifdamadeleigaa.VG
open Go
set_option linter.unusedSimpArgs false
set_option linter.unusedVariables false

theorem gnear_c {G : Nat → Prop} {w : World} {v : Value} {l : List Int} (wd x y : Int) (h : Rd G w v l.length (intsV l)) : Calls Try.prog 16 [v, .int .i64 wd, .int .i64 x, .int .i64 y].toArray w (Ret fun r w' => r = .bool true ∧ Mod none' w w') := by
  refine F_sound c16 (by simp [fc16]) ?_
  simp [fc16, s16]
  refine callm (near_c wd x y h) (by simp) ?_
  intro w1 M1
  have H := Hp.ofMod M1
  simp [tup4]
  refine callm (near2_c wd x y (h.at H.mod)) (by simp (disch := omega) [wI, wU, tmod_nn, tdiv_nn, env0_0, env0_1, env0_2, env0_3, env0_4, env0_5, -env0_apply]) ?_
  intro w' M'
  replace H := H.same M'
  simp [tup4]
  exact H.mod
theorem blk4 {w : World} {t : Nat} {a b c d : Value} (h : ∀ o, w.cell? ⟨t, o, none⟩ = (#[a, b, c, d] : Array Value)[o]?) : w.cell? ⟨t, 0, none⟩ = some a ∧ w.cell? ⟨t, 1, none⟩ = some b ∧ w.cell? ⟨t, 2, none⟩ = some c ∧ w.cell? ⟨t, 3, none⟩ = some d :=
  ⟨by rw [h 0]; rfl, by rw [h 1]; rfl, by rw [h 2]; rfl, by rw [h 3]; rfl⟩

theorem four_of {H : Type} {enc : TypeId × Value → H} {w : World} {a : Array Value} (h : Sees enc Try.prog w 23 a.toList) : ∃ f0 f1 f2 f3 : Int, Value.agg a = .agg #[.int .i64 f0, .int .i64 f1, .int .i64 f2, .int .i64 f3] := by
  obtain ⟨l, hl, rfl, _⟩ := arr_of (e := 3) (k := .i64) (n := 4) (by kernel_rfl) (by kernel_rfl) (by kernel_rfl) (by kernel_rfl) h
  match l, hl with
  | [f0, f1, f2, f3], _ => exact ⟨f0, f1, f2, f3, rfl⟩

set_option maxHeartbeats 8000000 in
theorem gnears_law {w : World} {tv lv : Value} {t l : List Int} (wd x y kind f0 f1 f2 f3 dp : Int) (ht : Rd (fun k => k < w.heap.size) w tv t.length (intsV t)) (hm : t.length ≤ maxLen) (hl : Rd (fun k => k < w.heap.size) w lv l.length (intsV l)) :
    Calls Try.prog 3 [tv, lv, .int .i64 wd, .int .i64 x, .int .i64 y, .int .i64 kind, .agg #[.int .i64 f0, .int .i64 f1, .int .i64 f2, .int .i64 f3], .int .i64 dp].toArray w (Ret fun r w' => r = .bool true ∧ Mod none' w w') := by
  refine F_sound c3 (by simp [fc3]) ?_
  obtain ⟨lS, lL⟩ := hl.sl
  simp [fc3, s3]
  refine box_h (.agg #[.int .i64 f0, .int .i64 f1, .int .i64 f2, .int .i64 f3]) (Hp.nil w) (by simp) ?_
  intro t4 w0 H M0
  refine ⟨.inl rfl, ?_⟩
  replace H : Hp w w0 [.blk t4 #[.int .i64 f0, .int .i64 f1, .int .i64 f2, .int .i64 f3]] := H
  simp [lS, lL]
  by_cases hbig : 4200 < l.length
  · refine ite_r (t := true) (by simp; omega) (fun _ => ?_) (fun h => by cases h)
    simp
    exact H.mod
  refine ite_r (t := false) (by simp; omega) (fun h => by cases h) (fun _ => ?_)
  simp
  refine call_h (tnew_c t.length ht.cells1) (by simp) ?_
  rintro r w1 ⟨b, rfl, HR⟩
  replace H := H.join HR
  replace H : Hp w w1 [.blk t4 #[.int .i64 f0, .int .i64 f1, .int .i64 f2, .int .i64 f3], .tp b tv t.length] := H
  simp
  obtain ⟨hT, hlow, upR, up⟩ := H.tp 1 rfl
  have hg : ¬ (b < w.heap.size) := by omega
  refine call_h (next_c hT (ht.at H.mod) hg hm 20 (by omega)) (by simp) ?_
  rintro r w2 ⟨a, rfl, a0, a1, A⟩
  replace H := up _ A
  replace a1 := a1 (by omega)
  obtain ⟨W, hW⟩ : ∃ W : Nat, 1 + a = W := ⟨(1 + a).toNat, by omega⟩
  have wW : IntKind.i64.wrap (1 + a) = W := by rw [wI (by omega) (by omega), hW]
  simp [wW]
  obtain ⟨hT, _, upR, up⟩ := H.tp 1 rfl
  refine call_h (next_c hT (ht.at H.mod) hg hm 20 (by omega)) (by simp) ?_
  rintro r w3 ⟨c, rfl, c0, c1, A⟩
  replace H := up _ A
  replace c1 := c1 (by omega)
  obtain ⟨H', hH⟩ : ∃ H' : Nat, 1 + c = H' := ⟨(1 + c).toNat, by omega⟩
  have wH : IntKind.i64.wrap (1 + c) = H' := by rw [wI (by omega) (by omega), hH]
  simp [wW, wH]
  obtain ⟨hT, _, upR, up⟩ := H.tp 1 rfl
  refine call_h (depth_c hT (ht.at H.mod) hg hm (fun k hk => by have := H.mod.size; omega)) (by simp) ?_
  rintro r w4 ⟨d, rfl, hd, A⟩
  replace H := up _ A
  simp [wW, wH]
  obtain ⟨hT, _, upR, up⟩ := H.tp 1 rfl
  refine call_h (plane_c hT (ht.at H.mod) hg hm (fun k hk => by have := H.mod.size; omega) W H' d (by omega) (by omega) (by omega) hd) (by simp) ?_
  rintro pv w5 ⟨p, hpl, A, hs⟩
  replace H := upR _ _ A hs
  simp
  have hln := hpl.1
  have hmm : W * H' ≤ 20 * 20 := Nat.mul_le_mul (by omega) (by omega)
  have v1 : IntKind.i64.wrap ((W : Int) - 1) = (W : Int) - 1 := wI (by omega) (by omega)
  have v2 : IntKind.i64.wrap ((H' : Int) - 1) = (H' : Int) - 1 := wI (by omega) (by omega)
  refine callp (within_c x 0 ((W : Int) - 1) (by omega) (by omega) (by omega)) (by simp [v1]) ?_
  simp [v2]
  refine callp (within_c y 0 ((H' : Int) - 1) (by omega) (by omega) (by omega)) (by simp [v2]) ?_
  have ib := with_bd (n := x) (lo := 0) (hi := (W : Int) - 1) (by omega)
  have jb := with_bd (n := y) (lo := 0) (hi := (H' : Int) - 1) (by omega)
  obtain ⟨I, hI⟩ : ∃ I : Nat, withI x 0 ((W : Int) - 1) = I := ⟨(withI x 0 ((W : Int) - 1)).toNat, by omega⟩
  obtain ⟨J, hJ⟩ : ∃ J : Nat, withI y 0 ((H' : Int) - 1) = J := ⟨(withI y 0 ((H' : Int) - 1)).toNat, by omega⟩
  rw [hI, hJ]
  rw [hI] at ib
  rw [hJ] at jb
  simp
  obtain ⟨i4, hi4, hz4⟩ : ∃ i, Try.prog.info? 23 = some i ∧ i.zero = some (.agg #[.int .i64 0, .int .i64 0, .int .i64 0, .int .i64 0]) := ⟨_, rfl, rfl⟩
  replace H : Hp w w5 [.blk t4 #[.int .i64 f0, .int .i64 f1, .int .i64 f2, .int .i64 f3], .tp b tv t.length, .own 3 1 pv (W * H') (intsV p)] := H
  refine sq_r (fun env' w' => env' 1 = lv ∧ env' 2 = .int .i64 wd ∧ env' 3 = .int .i64 x ∧ env' 4 = .int .i64 y ∧ env' 5 = .int .i64 kind ∧ env' 7 = .int .i64 dp ∧ env' 14 = .pointer (some ⟨t4, 0, none⟩) ∧ env' 18 = .int .i64 W ∧ env' 20 = .int .i64 d ∧ env' 21 = pv ∧ env' 22 = .int .i64 I ∧ env' 23 = .int .i64 J ∧ ∃ n4, env' 24 = .pointer (some ⟨n4, 0, none⟩) ∧
    Hp w w' [.blk t4 #[.int .i64 f0, .int .i64 f1, .int .i64 f2, .int .i64 f3], .tp b tv t.length, .own 3 1 pv (W * H') (intsV p), .blk n4 #[.int .i64 (wrapI f0 d), .int .i64 (wrapI f1 d), .int .i64 (wrapI f2 d), .int .i64 (wrapI f3 d)]]) ?_ ?_
  · replace H := H.drew
    obtain ⟨c0, c1, c2, c3⟩ := blk4 (H.blk 0 rfl)
    simp only [cell_drew] at c0 c1 c2 c3
    simp [c0, c1, c2, c3]
    refine wp_alt ?_ ?_
    rotate_left
    · have H0 := H
      refine alloc_h H hi4 hz4 ?_
      intro n4 wn H Mn
      obtain ⟨p0, p1, p2, p3⟩ := blk4 (H0.blk 0 rfl)
      obtain ⟨q0, q1, q2, q3⟩ := blk4 (H.blk 0 rfl)
      refine ⟨.inr (by simp [promsOk, promOk]; exact ⟨same_one p3 q3, same_one p2 q2, same_one p1 q1, same_one p0 q0⟩), ?_⟩
      refine call_r _ (wrap2_c f0 d) rfl ?_
      rintro r _ ⟨rfl, rfl⟩
      refine ⟨by simp [promOk, SameCells], ?_⟩
      refine call_r _ (wrap2_c f1 d) rfl ?_
      rintro r _ ⟨rfl, rfl⟩
      refine ⟨by simp [promOk, SameCells], ?_⟩
      refine call_r _ (wrap2_c f2 d) rfl ?_
      rintro r _ ⟨rfl, rfl⟩
      refine ⟨by simp [promOk, SameCells], ?_⟩
      refine call_r _ (wrap2_c f3 d) rfl ?_
      rintro r _ ⟨rfl, rfl⟩
      refine ⟨by simp [promOk, SameCells], ?_⟩
      refine ⟨by simp [putAt, Value.cells], ?_⟩
      refine stAll_h 3 H rfl (v := .agg #[.int .i64 (wrapI f0 d), .int .i64 (wrapI f1 d), .int .i64 (wrapI f2 d), .int .i64 (wrapI f3 d)]) rfl (by simp [putAt, Value.cells]) rfl rfl (by simp [Value.cells]) ?_
      intro ws H
      refine ⟨.inl rfl, ?_⟩
      exact ⟨rfl, rfl, rfl, rfl, rfl, rfl, rfl, rfl, rfl, rfl, rfl, rfl, n4, rfl, H⟩
    refine call_r _ (wrap2_c f0 d) rfl ?_
    rintro r _ ⟨rfl, rfl⟩
    refine ⟨by simp [promOk, SameCells], ?_⟩
    refine wp_alt ?_ ?_
    rotate_left
    · have H0 := H
      refine alloc_h H hi4 hz4 ?_
      intro n4 wn H Mn
      obtain ⟨p0, p1, p2, p3⟩ := blk4 (H0.blk 0 rfl)
      obtain ⟨q0, q1, q2, q3⟩ := blk4 (H.blk 0 rfl)
      refine ⟨.inr (by simp [promsOk, promOk]; exact ⟨same_one p3 q3, same_one p2 q2, same_one p1 q1⟩), ?_⟩
      refine call_r _ (wrap2_c f1 d) rfl ?_
      rintro r _ ⟨rfl, rfl⟩
      refine ⟨by simp [promOk, SameCells], ?_⟩
      refine call_r _ (wrap2_c f2 d) rfl ?_
      rintro r _ ⟨rfl, rfl⟩
      refine ⟨by simp [promOk, SameCells], ?_⟩
      refine call_r _ (wrap2_c f3 d) rfl ?_
      rintro r _ ⟨rfl, rfl⟩
      refine ⟨by simp [promOk, SameCells], ?_⟩
      refine ⟨by simp [putAt, Value.cells], ?_⟩
      refine stAll_h 3 H rfl (v := .agg #[.int .i64 (wrapI f0 d), .int .i64 (wrapI f1 d), .int .i64 (wrapI f2 d), .int .i64 (wrapI f3 d)]) rfl (by simp [putAt, Value.cells]) rfl rfl (by simp [Value.cells]) ?_
      intro ws H
      refine ⟨.inl rfl, ?_⟩
      exact ⟨rfl, rfl, rfl, rfl, rfl, rfl, rfl, rfl, rfl, rfl, rfl, rfl, n4, rfl, H⟩
    refine call_r _ (wrap2_c f1 d) rfl ?_
    rintro r _ ⟨rfl, rfl⟩
    refine ⟨by simp [promOk, SameCells], ?_⟩
    refine wp_alt ?_ ?_
    rotate_left
    · have H0 := H
      refine alloc_h H hi4 hz4 ?_
      intro n4 wn H Mn
      obtain ⟨p0, p1, p2, p3⟩ := blk4 (H0.blk 0 rfl)
      obtain ⟨q0, q1, q2, q3⟩ := blk4 (H.blk 0 rfl)
      refine ⟨.inr (by simp [promsOk, promOk]; exact ⟨same_one p3 q3, same_one p2 q2⟩), ?_⟩
      refine call_r _ (wrap2_c f2 d) rfl ?_
      rintro r _ ⟨rfl, rfl⟩
      refine ⟨by simp [promOk, SameCells], ?_⟩
      refine call_r _ (wrap2_c f3 d) rfl ?_
      rintro r _ ⟨rfl, rfl⟩
      refine ⟨by simp [promOk, SameCells], ?_⟩
      refine ⟨by simp [putAt, Value.cells], ?_⟩
      refine stAll_h 3 H rfl (v := .agg #[.int .i64 (wrapI f0 d), .int .i64 (wrapI f1 d), .int .i64 (wrapI f2 d), .int .i64 (wrapI f3 d)]) rfl (by simp [putAt, Value.cells]) rfl rfl (by simp [Value.cells]) ?_
      intro ws H
      refine ⟨.inl rfl, ?_⟩
      exact ⟨rfl, rfl, rfl, rfl, rfl, rfl, rfl, rfl, rfl, rfl, rfl, rfl, n4, rfl, H⟩
    refine call_r _ (wrap2_c f2 d) rfl ?_
    rintro r _ ⟨rfl, rfl⟩
    refine ⟨by simp [promOk, SameCells], ?_⟩
    refine wp_alt ?_ ?_
    rotate_left
    · have H0 := H
      refine alloc_h H hi4 hz4 ?_
      intro n4 wn H Mn
      obtain ⟨p0, p1, p2, p3⟩ := blk4 (H0.blk 0 rfl)
      obtain ⟨q0, q1, q2, q3⟩ := blk4 (H.blk 0 rfl)
      refine ⟨.inr (by simp [promsOk, promOk]; exact same_one p3 q3), ?_⟩
      refine call_r _ (wrap2_c f3 d) rfl ?_
      rintro r _ ⟨rfl, rfl⟩
      refine ⟨by simp [promOk, SameCells], ?_⟩
      refine ⟨by simp [putAt, Value.cells], ?_⟩
      refine stAll_h 3 H rfl (v := .agg #[.int .i64 (wrapI f0 d), .int .i64 (wrapI f1 d), .int .i64 (wrapI f2 d), .int .i64 (wrapI f3 d)]) rfl (by simp [putAt, Value.cells]) rfl rfl (by simp [Value.cells]) ?_
      intro ws H
      refine ⟨.inl rfl, ?_⟩
      exact ⟨rfl, rfl, rfl, rfl, rfl, rfl, rfl, rfl, rfl, rfl, rfl, rfl, n4, rfl, H⟩
    refine call_r _ (wrap2_c f3 d) rfl ?_
    rintro r _ ⟨rfl, rfl⟩
    refine ⟨by simp [promOk, SameCells], ?_⟩
    refine ⟨by simp [putAt, Value.cells], ?_⟩
    have H0 := H
    refine alloc_h H hi4 hz4 ?_
    intro n4 wn H Mn
    refine ⟨.inl rfl, ?_⟩
    refine stAll_h 3 H rfl (v := .agg #[.int .i64 (wrapI f0 d), .int .i64 (wrapI f1 d), .int .i64 (wrapI f2 d), .int .i64 (wrapI f3 d)]) rfl (by simp [putAt, Value.cells]) rfl rfl (by simp [Value.cells]) ?_
    intro ws H
    refine ⟨.inl rfl, ?_⟩
    exact ⟨rfl, rfl, rfl, rfl, rfl, rfl, rfl, rfl, rfl, rfl, rfl, rfl, n4, rfl, H⟩
  · rintro env w6 ⟨e1, e2, e3, e4, e5, e7, e14, e18, e20, e21, e22, e23, n4, e24, H⟩
    simp
    refine for_r 12 (fun q env' w' => env' 1 = lv ∧ env' 2 = .int .i64 wd ∧ env' 3 = .int .i64 x ∧ env' 4 = .int .i64 y ∧ env' 5 = .int .i64 kind ∧ env' 7 = .int .i64 dp ∧ env' 14 = .pointer (some ⟨t4, 0, none⟩) ∧ env' 18 = .int .i64 W ∧ env' 20 = .int .i64 d ∧ env' 21 = pv ∧ env' 22 = .int .i64 I ∧ env' 23 = .int .i64 J ∧ env' 24 = .pointer (some ⟨n4, 0, none⟩) ∧ env' 25 = .int .i64 ((q : Int) - 1) ∧ Mod none' w6 w') ?_ ?_ ?_
    · simp [e1, e2, e3, e4, e5, e7, e14, e18, e20, e21, e22, e23, e24]
      exact Mod.refl _ _
    · rintro q env w' hq ⟨e1, e2, e3, e4, e5, e7, e14, e18, e20, e21, e22, e23, e24, e25, M⟩
      simp [e25]
      refine ite_r (t := true) (by simp; omega) (fun _ => ?_) (fun h => by cases h)
      replace M := M.drew
      have H2 := H.same M
      obtain ⟨c0, c1, c2, c3⟩ := blk4 (H2.blk 3 rfl)
      have d0 := c0; have d1 := c1; have d2 := c2; have d3 := c3
      simp only [cell_drew] at d0 d1 d2 d3
      simp [wp_blk, e24, d0, d1, d2, d3]
      refine call_r _ (one_c' ((q : Int) - 1) (wrapI f0 d) (wrapI f1 d) (wrapI f2 d) (wrapI f3 d) d) (by simp [e20, e25]) ?_
      rintro r w7 ⟨rfl, M7⟩
      replace M := M.tr M7
      obtain ⟨g0, g1, g2, g3⟩ := blk4 ((H.same M).blk 3 rfl)
      refine ⟨by simp [promOk, e24]; exact ⟨same_one c3 g3, same_one c2 g2, same_one c1 g1, same_one c0 g0⟩, ?_⟩
      refine callm (one2_c ((q : Int) - 1) (wrapI f0 d) (wrapI f1 d) (wrapI f2 d) (wrapI f3 d) d) (by simp [e20, e25]) ?_
      intro w8 M8
      replace M := M.tr M8
      simp
      refine ite_r (t := false) (by simp) (fun h => by cases h) (fun _ => ?_)
      have hw1 : IntKind.i64.wrap (q : Int) = (q : Int) := wI (by omega) (by omega)
      simp [hw1, e1, e2, e3, e4, e5, e7, e14, e18, e20, e21, e22, e23, e24, e25]
      exact M
    · rintro env w' ⟨e1, e2, e3, e4, e5, e7, e14, e18, e20, e21, e22, e23, e24, e25, M⟩
      simp [e25]
      refine ite_r (t := false) (by simp) (fun h => by cases h) (fun _ => ?_)
      replace H := (H.same M).drew
      have hp6 : ∀ {w'}, Hp w w' [.blk t4 #[.int .i64 f0, .int .i64 f1, .int .i64 f2, .int .i64 f3], .tp b tv t.length, .own 3 1 pv (W * H') (intsV p), .blk n4 #[.int .i64 (wrapI f0 d), .int .i64 (wrapI f1 d), .int .i64 (wrapI f2 d), .int .i64 (wrapI f3 d)]] → Rc (fun _ => True) w' pv p.length (intsV p) := fun H => by rw [hln]; exact (H.rc 2 rfl).top
      have hJW : J * W ≤ (H' - 1) * W := Nat.mul_le_mul_right W (by omega)
      have hHW : (H' - 1) * W + W = W * H' := by
        obtain ⟨K, rfl⟩ : ∃ K, H' = K + 1 := ⟨H' - 1, by omega⟩
        rw [Nat.add_sub_cancel, Nat.mul_comm W, Nat.succ_mul]
      have m1 : (J : Int) * (W : Int) = ((J * W : Nat) : Int) := by rw [Int.natCast_mul]
      have w1 : IntKind.i64.wrap ((J * W : Nat) : Int) = ((J * W : Nat) : Int) := wI (by omega) (by omega)
      have w2 : IntKind.i64.wrap (((J * W : Nat) : Int) + (I : Int)) = ((J * W + I : Nat) : Int) := by rw [wI (by omega) (by omega)]; omega
      obtain ⟨sS, sL, sC⟩ := (hp6 H).sl
      refine callm (gnear_c W I J (hp6 H).rd) (by simp (disch := omega) [wI, wU, tmod_nn, tdiv_nn, env0_0, env0_1, env0_2, env0_3, env0_4, env0_5, -env0_apply, e18, e21, e22, e23]) ?_
      intro w' M'
      replace H := H.same M'
      simp [-Int.natCast_mul, -Int.natCast_add, e18, e21, e22, e23, m1, w1, w2, sS, sL]
      refine ⟨by omega, ?_⟩
      refine ifg_r (t := true) (by simp) (fun _ => ?_) (fun h => (h rfl).elim)
      have hcut := (hp6 H).cuti 0 (J * W + I) (by omega) (by omega)
      refine callm (gnear_c W I J hcut.rd) (by simp (disch := omega) [wI, wU, tmod_nn, tdiv_nn, env0_0, env0_1, env0_2, env0_3, env0_4, env0_5, -env0_apply, -Int.natCast_mul, -Int.natCast_add, e18, e21, e22, e23, m1, w1, w2]) ?_
      intro w' M'
      replace H := H.same M'
      simp
      refine ifg_r (t := true) (by simp) (fun _ => ?_) (fun h => (h rfl).elim)
      refine callm (gnear_c wd x y (hl.at H.mod)) (by simp (disch := omega) [wI, wU, tmod_nn, tdiv_nn, env0_0, env0_1, env0_2, env0_3, env0_4, env0_5, -env0_apply, e1, e2, e3, e4]) ?_
      intro w' M'
      replace H := H.same M'
      have a6 : ∀ v : Int, bitw .and .i64 v 63 = v % 64 := fun v => and_m v 6 (by omega)
      have w3 : IntKind.i64.wrap (1 + wd % 64) = 1 + wd % 64 := wI (by omega) (by omega)
      simp [a6, e2, e3, e4]
      refine ifg_r (t := true) (by simp) (fun _ => ?_) (fun h => (h rfl).elim)
      refine callm (gnear_c (1 + wd % 64) (x % 64) (y % 64) (hl.at H.mod)) (by simp (disch := omega) [wI, wU, tmod_nn, tdiv_nn, env0_0, env0_1, env0_2, env0_3, env0_4, env0_5, -env0_apply, a6, e1, e2, e3, e4, w3]) ?_
      intro w' M'
      replace H := H.same M'
      obtain ⟨c0, c1, c2, c3⟩ := blk4 (H.blk 0 rfl)
      simp [e14, c0, c1, c2, c3]
      refine ifg_r (t := true) (by simp) (fun _ => ?_) (fun h => (h rfl).elim)
      refine call_r _ (one_c' kind f0 f1 f2 f3 dp) (by simp [e5, e7]) ?_
      rintro r w9 ⟨rfl, M9⟩
      replace H := H.same M9
      obtain ⟨g0, g1, g2, g3⟩ := blk4 (H.blk 0 rfl)
      refine ⟨by simp [promOk, e14]; exact ⟨same_one c3 g3, same_one c2 g2, same_one c1 g1, same_one c0 g0⟩, ?_⟩
      simp
      refine ifg_r (t := true) (by simp) (fun _ => ?_) (fun h => (h rfl).elim)
      refine callm (one2_c kind f0 f1 f2 f3 dp) (by simp (disch := omega) [wI, wU, tmod_nn, tdiv_nn, env0_0, env0_1, env0_2, env0_3, env0_4, env0_5, -env0_apply, e5, e7]) ?_
      intro w' M'
      replace H := H.same M'
      simp
      refine ifg_r (t := true) (by simp) (fun _ => ?_) (fun h => (h rfl).elim)
      refine callm (gknown_c) (by simp (disch := omega) [wI, wU, tmod_nn, tdiv_nn, env0_0, env0_1, env0_2, env0_3, env0_4, env0_5, -env0_apply]) ?_
      intro w' M'
      replace H := H.same M'
      simp
      exact H.mod

end Go.Proofs.Ytifdamadeleigaa.VG
