/-
  Tick: the law TickOrder, joined.
-/
import Derived.Test.YtflglnigcidmaaaTh
namespace Go.Proofs.Ytflglnigcidmaaa.VG
open Go
set_option linter.unusedSimpArgs false
set_option linter.unusedVariables false

set_option maxHeartbeats 8000000 in
theorem order_c {w : World} (a b a' b' a'' b'' n m k : Int) : Calls Try.prog 6 [rV a b, rV a' b', rV a'' b'', .int .i64 n, .int .i64 m, .int .i64 k].toArray w (Ret fun r w' => r = .bool true ∧ Mod none' w w') := by
  refine F_sound c6 (by simp [fc6]) ?_
  simp [fc6, s6]
  refine box_h (rV a b) (Hp.nil w) (by simp) ?_
  intro g w1 H M1
  refine ⟨.inl rfl, ?_⟩
  refine box_h (rV a' b') H (by simp) ?_
  intro g2 w2 H M2
  refine ⟨.inl rfl, ?_⟩
  refine box_h (rV a'' b'') H (by simp) ?_
  intro g3 w3 H M3
  refine ⟨.inl rfl, ?_⟩
  simp
  replace H := H.drew
  simp at H
  obtain ⟨i2, hi2, hz2⟩ : ∃ i, Try.prog.info? 23 = some i ∧ i.zero = some (rV 0 0) := ⟨_, rfl, rfl⟩
  refine sq_r (fun env' w' => env' 3 = .int .i64 n ∧ env' 4 = .int .i64 m ∧ env' 5 = .int .i64 k ∧ ∃ x y z, env' 13 = .pointer (some ⟨x, 0, none⟩) ∧ env' 14 = .pointer (some ⟨y, 0, none⟩) ∧ env' 15 = .pointer (some ⟨z, 0, none⟩) ∧
    Hp w w' [.blk x (rV (1 + a % 8) (1 + b % 16)).cells, .blk y (rV (1 + a' % 8) (1 + b' % 16)).cells, .blk z (rV (1 + a'' % 8) (1 + b'' % 16)).cells]) ?_ ?_
  · obtain ⟨h0, h1, h2, h3⟩ := r4 (H.blk 0 rfl)
    obtain ⟨k0, k1, k2, k3⟩ := r4 (H.blk 1 rfl)
    obtain ⟨l0, l1, l2, l3⟩ := r4 (H.blk 2 rfl)
    have w3e : ∀ a, cellsFrom w3.drew a 0 2 = cellsFrom w3 a 0 2 := fun a => cellsFrom_drew 0 2
    simp only [w3e, cell_drew] at h2 h3 k2 k3 l2 l3
    simp only [eq_iff_iff, iff_true] at h3 k3 l3
    simp [h2, h3, k2, k3, l2, l3]
    refine ⟨h3, k3, l3, ?_⟩
    refine wp_alt ?_ ?_
    ·
      refine call_r _ (small_c a b) rfl ?_
      rintro r wr ⟨rfl, Mr⟩
      have H0 := H
      replace H := H.same Mr
      refine ⟨by simp [promOk]; exact ⟨same_blk (H0.blk 2 rfl) (H.blk 2 rfl), same_blk (H0.blk 1 rfl) (H.blk 1 rfl)⟩, ?_⟩
      refine wp_alt ?_ ?_
      ·
        refine call_r _ (small_c a' b') rfl ?_
        rintro r wr ⟨rfl, Mr⟩
        have H0 := H
        replace H := H.same Mr
        refine ⟨by simp [promOk]; exact same_blk (H0.blk 2 rfl) (H.blk 2 rfl), ?_⟩
        refine wp_alt ?_ ?_
        ·
          refine call_r _ (small_c a'' b'') rfl ?_
          rintro r wr ⟨rfl, Mr⟩
          replace H := H.same Mr
          refine ⟨trivial, ?_⟩
          refine wp_alt ?_ ?_
          ·
            refine alloc_h H hi2 hz2 ?_
            intro x wx H Mx
            refine ⟨.inl rfl, ?_⟩
            refine wp_alt ?_ ?_
            ·
              refine alloc_h H hi2 hz2 ?_
              intro y wy H My
              refine ⟨.inl rfl, ?_⟩
              refine alloc_h H hi2 hz2 ?_
              intro z wz H Mz
              refine ⟨.inl rfl, ?_⟩
              refine stAll_h 3 H rfl (v := rV (1 + a % 8) (1 + b % 16)) rfl rfl rfl rfl (rV_one _ _) ?_
              intro ws H
              refine ⟨.inl rfl, ?_⟩
              refine stAll_h 4 H rfl (v := rV (1 + a' % 8) (1 + b' % 16)) rfl rfl rfl rfl (rV_one _ _) ?_
              intro ws H
              refine ⟨.inl rfl, ?_⟩
              refine stAll_h 5 H rfl (v := rV (1 + a'' % 8) (1 + b'' % 16)) rfl rfl rfl rfl (rV_one _ _) ?_
              intro ws H
              refine ⟨.inl rfl, ?_⟩
              exact ⟨rfl, rfl, rfl, x, rfl, y, rfl, z, rfl, (((H.drop 0).drop 0).drop 0).perm (.refl _)⟩
            ·
              refine alloc_h H hi2 hz2 ?_
              intro z wz H Mz
              refine ⟨.inl rfl, ?_⟩
              refine alloc_h H hi2 hz2 ?_
              intro y wy H My
              refine ⟨.inl rfl, ?_⟩
              refine stAll_h 3 H rfl (v := rV (1 + a % 8) (1 + b % 16)) rfl rfl rfl rfl (rV_one _ _) ?_
              intro ws H
              refine ⟨.inl rfl, ?_⟩
              refine stAll_h 5 H rfl (v := rV (1 + a' % 8) (1 + b' % 16)) rfl rfl rfl rfl (rV_one _ _) ?_
              intro ws H
              refine ⟨.inl rfl, ?_⟩
              refine stAll_h 4 H rfl (v := rV (1 + a'' % 8) (1 + b'' % 16)) rfl rfl rfl rfl (rV_one _ _) ?_
              intro ws H
              refine ⟨.inl rfl, ?_⟩
              exact ⟨rfl, rfl, rfl, x, rfl, y, rfl, z, rfl, (((H.drop 0).drop 0).drop 0).perm (.cons _ (.swap _ _ _))⟩
          ·
            refine wp_alt ?_ ?_
            ·
              refine alloc_h H hi2 hz2 ?_
              intro y wy H My
              refine ⟨.inl rfl, ?_⟩
              refine wp_alt ?_ ?_
              ·
                refine alloc_h H hi2 hz2 ?_
                intro x wx H Mx
                refine ⟨.inl rfl, ?_⟩
                refine alloc_h H hi2 hz2 ?_
                intro z wz H Mz
                refine ⟨.inl rfl, ?_⟩
                refine stAll_h 4 H rfl (v := rV (1 + a % 8) (1 + b % 16)) rfl rfl rfl rfl (rV_one _ _) ?_
                intro ws H
                refine ⟨.inl rfl, ?_⟩
                refine stAll_h 3 H rfl (v := rV (1 + a' % 8) (1 + b' % 16)) rfl rfl rfl rfl (rV_one _ _) ?_
                intro ws H
                refine ⟨.inl rfl, ?_⟩
                refine stAll_h 5 H rfl (v := rV (1 + a'' % 8) (1 + b'' % 16)) rfl rfl rfl rfl (rV_one _ _) ?_
                intro ws H
                refine ⟨.inl rfl, ?_⟩
                exact ⟨rfl, rfl, rfl, x, rfl, y, rfl, z, rfl, (((H.drop 0).drop 0).drop 0).perm (.swap _ _ _)⟩
              ·
                refine alloc_h H hi2 hz2 ?_
                intro z wz H Mz
                refine ⟨.inl rfl, ?_⟩
                refine alloc_h H hi2 hz2 ?_
                intro x wx H Mx
                refine ⟨.inl rfl, ?_⟩
                refine stAll_h 5 H rfl (v := rV (1 + a % 8) (1 + b % 16)) rfl rfl rfl rfl (rV_one _ _) ?_
                intro ws H
                refine ⟨.inl rfl, ?_⟩
                refine stAll_h 3 H rfl (v := rV (1 + a' % 8) (1 + b' % 16)) rfl rfl rfl rfl (rV_one _ _) ?_
                intro ws H
                refine ⟨.inl rfl, ?_⟩
                refine stAll_h 4 H rfl (v := rV (1 + a'' % 8) (1 + b'' % 16)) rfl rfl rfl rfl (rV_one _ _) ?_
                intro ws H
                refine ⟨.inl rfl, ?_⟩
                exact ⟨rfl, rfl, rfl, x, rfl, y, rfl, z, rfl, (((H.drop 0).drop 0).drop 0).perm (.trans (.cons _ (.swap _ _ _)) (.swap _ _ _))⟩
            ·
              refine alloc_h H hi2 hz2 ?_
              intro z wz H Mz
              refine ⟨.inl rfl, ?_⟩
              refine wp_alt ?_ ?_
              ·
                refine alloc_h H hi2 hz2 ?_
                intro x wx H Mx
                refine ⟨.inl rfl, ?_⟩
                refine alloc_h H hi2 hz2 ?_
                intro y wy H My
                refine ⟨.inl rfl, ?_⟩
                refine stAll_h 4 H rfl (v := rV (1 + a % 8) (1 + b % 16)) rfl rfl rfl rfl (rV_one _ _) ?_
                intro ws H
                refine ⟨.inl rfl, ?_⟩
                refine stAll_h 5 H rfl (v := rV (1 + a' % 8) (1 + b' % 16)) rfl rfl rfl rfl (rV_one _ _) ?_
                intro ws H
                refine ⟨.inl rfl, ?_⟩
                refine stAll_h 3 H rfl (v := rV (1 + a'' % 8) (1 + b'' % 16)) rfl rfl rfl rfl (rV_one _ _) ?_
                intro ws H
                refine ⟨.inl rfl, ?_⟩
                exact ⟨rfl, rfl, rfl, x, rfl, y, rfl, z, rfl, (((H.drop 0).drop 0).drop 0).perm (.trans (.swap _ _ _) (.cons _ (.swap _ _ _)))⟩
              ·
                refine alloc_h H hi2 hz2 ?_
                intro y wy H My
                refine ⟨.inl rfl, ?_⟩
                refine alloc_h H hi2 hz2 ?_
                intro x wx H Mx
                refine ⟨.inl rfl, ?_⟩
                refine stAll_h 5 H rfl (v := rV (1 + a % 8) (1 + b % 16)) rfl rfl rfl rfl (rV_one _ _) ?_
                intro ws H
                refine ⟨.inl rfl, ?_⟩
                refine stAll_h 4 H rfl (v := rV (1 + a' % 8) (1 + b' % 16)) rfl rfl rfl rfl (rV_one _ _) ?_
                intro ws H
                refine ⟨.inl rfl, ?_⟩
                refine stAll_h 3 H rfl (v := rV (1 + a'' % 8) (1 + b'' % 16)) rfl rfl rfl rfl (rV_one _ _) ?_
                intro ws H
                refine ⟨.inl rfl, ?_⟩
                exact ⟨rfl, rfl, rfl, x, rfl, y, rfl, z, rfl, (((H.drop 0).drop 0).drop 0).perm (.trans (.swap _ _ _) (.trans (.cons _ (.swap _ _ _)) (.swap _ _ _)))⟩
        ·
          refine wp_alt ?_ ?_
          ·
            have H0 := H
            refine alloc_h H hi2 hz2 ?_
            intro x wx H Mx
            refine ⟨.inr (by simp [promsOk, promOk]; exact same_blk (H0.blk 2 rfl) (H.blk 2 rfl)), ?_⟩
            refine wp_alt ?_ ?_
            ·
              refine call_r _ (small_c a'' b'') rfl ?_
              rintro r wr ⟨rfl, Mr⟩
              replace H := H.same Mr
              refine ⟨trivial, ?_⟩
              refine wp_alt ?_ ?_
              ·
                refine alloc_h H hi2 hz2 ?_
                intro y wy H My
                refine ⟨.inl rfl, ?_⟩
                refine alloc_h H hi2 hz2 ?_
                intro z wz H Mz
                refine ⟨.inl rfl, ?_⟩
                refine stAll_h 3 H rfl (v := rV (1 + a % 8) (1 + b % 16)) rfl rfl rfl rfl (rV_one _ _) ?_
                intro ws H
                refine ⟨.inl rfl, ?_⟩
                refine stAll_h 4 H rfl (v := rV (1 + a' % 8) (1 + b' % 16)) rfl rfl rfl rfl (rV_one _ _) ?_
                intro ws H
                refine ⟨.inl rfl, ?_⟩
                refine stAll_h 5 H rfl (v := rV (1 + a'' % 8) (1 + b'' % 16)) rfl rfl rfl rfl (rV_one _ _) ?_
                intro ws H
                refine ⟨.inl rfl, ?_⟩
                exact ⟨rfl, rfl, rfl, x, rfl, y, rfl, z, rfl, (((H.drop 0).drop 0).drop 0).perm (.refl _)⟩
              ·
                refine alloc_h H hi2 hz2 ?_
                intro z wz H Mz
                refine ⟨.inl rfl, ?_⟩
                refine alloc_h H hi2 hz2 ?_
                intro y wy H My
                refine ⟨.inl rfl, ?_⟩
                refine stAll_h 3 H rfl (v := rV (1 + a % 8) (1 + b % 16)) rfl rfl rfl rfl (rV_one _ _) ?_
                intro ws H
                refine ⟨.inl rfl, ?_⟩
                refine stAll_h 5 H rfl (v := rV (1 + a' % 8) (1 + b' % 16)) rfl rfl rfl rfl (rV_one _ _) ?_
                intro ws H
                refine ⟨.inl rfl, ?_⟩
                refine stAll_h 4 H rfl (v := rV (1 + a'' % 8) (1 + b'' % 16)) rfl rfl rfl rfl (rV_one _ _) ?_
                intro ws H
                refine ⟨.inl rfl, ?_⟩
                exact ⟨rfl, rfl, rfl, x, rfl, y, rfl, z, rfl, (((H.drop 0).drop 0).drop 0).perm (.cons _ (.swap _ _ _))⟩
            ·
              refine wp_alt ?_ ?_
              ·
                have H0 := H
                refine alloc_h H hi2 hz2 ?_
                intro y wy H My
                refine ⟨.inr (by simp [promsOk, promOk]; exact same_blk (H0.blk 2 rfl) (H.blk 2 rfl)), ?_⟩
                refine wp_alt ?_ ?_
                ·
                  refine call_r _ (small_c a'' b'') rfl ?_
                  rintro r wr ⟨rfl, Mr⟩
                  replace H := H.same Mr
                  refine ⟨trivial, ?_⟩
                  refine alloc_h H hi2 hz2 ?_
                  intro z wz H Mz
                  refine ⟨.inl rfl, ?_⟩
                  refine stAll_h 3 H rfl (v := rV (1 + a % 8) (1 + b % 16)) rfl rfl rfl rfl (rV_one _ _) ?_
                  intro ws H
                  refine ⟨.inl rfl, ?_⟩
                  refine stAll_h 4 H rfl (v := rV (1 + a' % 8) (1 + b' % 16)) rfl rfl rfl rfl (rV_one _ _) ?_
                  intro ws H
                  refine ⟨.inl rfl, ?_⟩
                  refine stAll_h 5 H rfl (v := rV (1 + a'' % 8) (1 + b'' % 16)) rfl rfl rfl rfl (rV_one _ _) ?_
                  intro ws H
                  refine ⟨.inl rfl, ?_⟩
                  exact ⟨rfl, rfl, rfl, x, rfl, y, rfl, z, rfl, (((H.drop 0).drop 0).drop 0).perm (.refl _)⟩
                ·
                  have H0 := H
                  refine alloc_h H hi2 hz2 ?_
                  intro z wz H Mz
                  refine ⟨.inr (by simp [promsOk, promOk]; exact same_blk (H0.blk 2 rfl) (H.blk 2 rfl)), ?_⟩
                  refine call_r _ (small_c a'' b'') rfl ?_
                  rintro r wr ⟨rfl, Mr⟩
                  replace H := H.same Mr
                  refine ⟨trivial, ?_⟩
                  refine stAll_h 3 H rfl (v := rV (1 + a % 8) (1 + b % 16)) rfl rfl rfl rfl (rV_one _ _) ?_
                  intro ws H
                  refine ⟨.inl rfl, ?_⟩
                  refine stAll_h 4 H rfl (v := rV (1 + a' % 8) (1 + b' % 16)) rfl rfl rfl rfl (rV_one _ _) ?_
                  intro ws H
                  refine ⟨.inl rfl, ?_⟩
                  refine stAll_h 5 H rfl (v := rV (1 + a'' % 8) (1 + b'' % 16)) rfl rfl rfl rfl (rV_one _ _) ?_
                  intro ws H
                  refine ⟨.inl rfl, ?_⟩
                  exact ⟨rfl, rfl, rfl, x, rfl, y, rfl, z, rfl, (((H.drop 0).drop 0).drop 0).perm (.refl _)⟩
              ·
                have H0 := H
                refine alloc_h H hi2 hz2 ?_
                intro z wz H Mz
                refine ⟨.inr (by simp [promsOk, promOk]; exact same_blk (H0.blk 2 rfl) (H.blk 2 rfl)), ?_⟩
                refine wp_alt ?_ ?_
                ·
                  refine call_r _ (small_c a'' b'') rfl ?_
                  rintro r wr ⟨rfl, Mr⟩
                  replace H := H.same Mr
                  refine ⟨trivial, ?_⟩
                  refine alloc_h H hi2 hz2 ?_
                  intro y wy H My
                  refine ⟨.inl rfl, ?_⟩
                  refine stAll_h 3 H rfl (v := rV (1 + a % 8) (1 + b % 16)) rfl rfl rfl rfl (rV_one _ _) ?_
                  intro ws H
                  refine ⟨.inl rfl, ?_⟩
                  refine stAll_h 5 H rfl (v := rV (1 + a' % 8) (1 + b' % 16)) rfl rfl rfl rfl (rV_one _ _) ?_
                  intro ws H
                  refine ⟨.inl rfl, ?_⟩
                  refine stAll_h 4 H rfl (v := rV (1 + a'' % 8) (1 + b'' % 16)) rfl rfl rfl rfl (rV_one _ _) ?_
                  intro ws H
                  refine ⟨.inl rfl, ?_⟩
                  exact ⟨rfl, rfl, rfl, x, rfl, y, rfl, z, rfl, (((H.drop 0).drop 0).drop 0).perm (.cons _ (.swap _ _ _))⟩
                ·
                  have H0 := H
                  refine alloc_h H hi2 hz2 ?_
                  intro y wy H My
                  refine ⟨.inr (by simp [promsOk, promOk]; exact same_blk (H0.blk 2 rfl) (H.blk 2 rfl)), ?_⟩
                  refine call_r _ (small_c a'' b'') rfl ?_
                  rintro r wr ⟨rfl, Mr⟩
                  replace H := H.same Mr
                  refine ⟨trivial, ?_⟩
                  refine stAll_h 3 H rfl (v := rV (1 + a % 8) (1 + b % 16)) rfl rfl rfl rfl (rV_one _ _) ?_
                  intro ws H
                  refine ⟨.inl rfl, ?_⟩
                  refine stAll_h 5 H rfl (v := rV (1 + a' % 8) (1 + b' % 16)) rfl rfl rfl rfl (rV_one _ _) ?_
                  intro ws H
                  refine ⟨.inl rfl, ?_⟩
                  refine stAll_h 4 H rfl (v := rV (1 + a'' % 8) (1 + b'' % 16)) rfl rfl rfl rfl (rV_one _ _) ?_
                  intro ws H
                  refine ⟨.inl rfl, ?_⟩
                  exact ⟨rfl, rfl, rfl, x, rfl, y, rfl, z, rfl, (((H.drop 0).drop 0).drop 0).perm (.cons _ (.swap _ _ _))⟩
          ·
            refine wp_alt ?_ ?_
            ·
              have H0 := H
              refine alloc_h H hi2 hz2 ?_
              intro y wy H My
              refine ⟨.inr (by simp [promsOk, promOk]; exact same_blk (H0.blk 2 rfl) (H.blk 2 rfl)), ?_⟩
              refine wp_alt ?_ ?_
              ·
                refine call_r _ (small_c a'' b'') rfl ?_
                rintro r wr ⟨rfl, Mr⟩
                replace H := H.same Mr
                refine ⟨trivial, ?_⟩
                refine wp_alt ?_ ?_
                ·
                  refine alloc_h H hi2 hz2 ?_
                  intro x wx H Mx
                  refine ⟨.inl rfl, ?_⟩
                  refine alloc_h H hi2 hz2 ?_
                  intro z wz H Mz
                  refine ⟨.inl rfl, ?_⟩
                  refine stAll_h 4 H rfl (v := rV (1 + a % 8) (1 + b % 16)) rfl rfl rfl rfl (rV_one _ _) ?_
                  intro ws H
                  refine ⟨.inl rfl, ?_⟩
                  refine stAll_h 3 H rfl (v := rV (1 + a' % 8) (1 + b' % 16)) rfl rfl rfl rfl (rV_one _ _) ?_
                  intro ws H
                  refine ⟨.inl rfl, ?_⟩
                  refine stAll_h 5 H rfl (v := rV (1 + a'' % 8) (1 + b'' % 16)) rfl rfl rfl rfl (rV_one _ _) ?_
                  intro ws H
                  refine ⟨.inl rfl, ?_⟩
                  exact ⟨rfl, rfl, rfl, x, rfl, y, rfl, z, rfl, (((H.drop 0).drop 0).drop 0).perm (.swap _ _ _)⟩
                ·
                  refine alloc_h H hi2 hz2 ?_
                  intro z wz H Mz
                  refine ⟨.inl rfl, ?_⟩
                  refine alloc_h H hi2 hz2 ?_
                  intro x wx H Mx
                  refine ⟨.inl rfl, ?_⟩
                  refine stAll_h 5 H rfl (v := rV (1 + a % 8) (1 + b % 16)) rfl rfl rfl rfl (rV_one _ _) ?_
                  intro ws H
                  refine ⟨.inl rfl, ?_⟩
                  refine stAll_h 3 H rfl (v := rV (1 + a' % 8) (1 + b' % 16)) rfl rfl rfl rfl (rV_one _ _) ?_
                  intro ws H
                  refine ⟨.inl rfl, ?_⟩
                  refine stAll_h 4 H rfl (v := rV (1 + a'' % 8) (1 + b'' % 16)) rfl rfl rfl rfl (rV_one _ _) ?_
                  intro ws H
                  refine ⟨.inl rfl, ?_⟩
                  exact ⟨rfl, rfl, rfl, x, rfl, y, rfl, z, rfl, (((H.drop 0).drop 0).drop 0).perm (.trans (.cons _ (.swap _ _ _)) (.swap _ _ _))⟩
              ·
                refine wp_alt ?_ ?_
                ·
                  have H0 := H
                  refine alloc_h H hi2 hz2 ?_
                  intro x wx H Mx
                  refine ⟨.inr (by simp [promsOk, promOk]; exact same_blk (H0.blk 2 rfl) (H.blk 2 rfl)), ?_⟩
                  refine wp_alt ?_ ?_
                  ·
                    refine call_r _ (small_c a'' b'') rfl ?_
                    rintro r wr ⟨rfl, Mr⟩
                    replace H := H.same Mr
                    refine ⟨trivial, ?_⟩
                    refine alloc_h H hi2 hz2 ?_
                    intro z wz H Mz
                    refine ⟨.inl rfl, ?_⟩
                    refine stAll_h 4 H rfl (v := rV (1 + a % 8) (1 + b % 16)) rfl rfl rfl rfl (rV_one _ _) ?_
                    intro ws H
                    refine ⟨.inl rfl, ?_⟩
                    refine stAll_h 3 H rfl (v := rV (1 + a' % 8) (1 + b' % 16)) rfl rfl rfl rfl (rV_one _ _) ?_
                    intro ws H
                    refine ⟨.inl rfl, ?_⟩
                    refine stAll_h 5 H rfl (v := rV (1 + a'' % 8) (1 + b'' % 16)) rfl rfl rfl rfl (rV_one _ _) ?_
                    intro ws H
                    refine ⟨.inl rfl, ?_⟩
                    exact ⟨rfl, rfl, rfl, x, rfl, y, rfl, z, rfl, (((H.drop 0).drop 0).drop 0).perm (.swap _ _ _)⟩
                  ·
                    have H0 := H
                    refine alloc_h H hi2 hz2 ?_
                    intro z wz H Mz
                    refine ⟨.inr (by simp [promsOk, promOk]; exact same_blk (H0.blk 2 rfl) (H.blk 2 rfl)), ?_⟩
                    refine call_r _ (small_c a'' b'') rfl ?_
                    rintro r wr ⟨rfl, Mr⟩
                    replace H := H.same Mr
                    refine ⟨trivial, ?_⟩
                    refine stAll_h 4 H rfl (v := rV (1 + a % 8) (1 + b % 16)) rfl rfl rfl rfl (rV_one _ _) ?_
                    intro ws H
                    refine ⟨.inl rfl, ?_⟩
                    refine stAll_h 3 H rfl (v := rV (1 + a' % 8) (1 + b' % 16)) rfl rfl rfl rfl (rV_one _ _) ?_
                    intro ws H
                    refine ⟨.inl rfl, ?_⟩
                    refine stAll_h 5 H rfl (v := rV (1 + a'' % 8) (1 + b'' % 16)) rfl rfl rfl rfl (rV_one _ _) ?_
                    intro ws H
                    refine ⟨.inl rfl, ?_⟩
                    exact ⟨rfl, rfl, rfl, x, rfl, y, rfl, z, rfl, (((H.drop 0).drop 0).drop 0).perm (.swap _ _ _)⟩
                ·
                  have H0 := H
                  refine alloc_h H hi2 hz2 ?_
                  intro z wz H Mz
                  refine ⟨.inr (by simp [promsOk, promOk]; exact same_blk (H0.blk 2 rfl) (H.blk 2 rfl)), ?_⟩
                  refine wp_alt ?_ ?_
                  ·
                    refine call_r _ (small_c a'' b'') rfl ?_
                    rintro r wr ⟨rfl, Mr⟩
                    replace H := H.same Mr
                    refine ⟨trivial, ?_⟩
                    refine alloc_h H hi2 hz2 ?_
                    intro x wx H Mx
                    refine ⟨.inl rfl, ?_⟩
                    refine stAll_h 5 H rfl (v := rV (1 + a % 8) (1 + b % 16)) rfl rfl rfl rfl (rV_one _ _) ?_
                    intro ws H
                    refine ⟨.inl rfl, ?_⟩
                    refine stAll_h 3 H rfl (v := rV (1 + a' % 8) (1 + b' % 16)) rfl rfl rfl rfl (rV_one _ _) ?_
                    intro ws H
                    refine ⟨.inl rfl, ?_⟩
                    refine stAll_h 4 H rfl (v := rV (1 + a'' % 8) (1 + b'' % 16)) rfl rfl rfl rfl (rV_one _ _) ?_
                    intro ws H
                    refine ⟨.inl rfl, ?_⟩
                    exact ⟨rfl, rfl, rfl, x, rfl, y, rfl, z, rfl, (((H.drop 0).drop 0).drop 0).perm (.trans (.cons _ (.swap _ _ _)) (.swap _ _ _))⟩
                  ·
                    have H0 := H
                    refine alloc_h H hi2 hz2 ?_
                    intro x wx H Mx
                    refine ⟨.inr (by simp [promsOk, promOk]; exact same_blk (H0.blk 2 rfl) (H.blk 2 rfl)), ?_⟩
                    refine call_r _ (small_c a'' b'') rfl ?_
                    rintro r wr ⟨rfl, Mr⟩
                    replace H := H.same Mr
                    refine ⟨trivial, ?_⟩
                    refine stAll_h 5 H rfl (v := rV (1 + a % 8) (1 + b % 16)) rfl rfl rfl rfl (rV_one _ _) ?_
                    intro ws H
                    refine ⟨.inl rfl, ?_⟩
                    refine stAll_h 3 H rfl (v := rV (1 + a' % 8) (1 + b' % 16)) rfl rfl rfl rfl (rV_one _ _) ?_
                    intro ws H
                    refine ⟨.inl rfl, ?_⟩
                    refine stAll_h 4 H rfl (v := rV (1 + a'' % 8) (1 + b'' % 16)) rfl rfl rfl rfl (rV_one _ _) ?_
                    intro ws H
                    refine ⟨.inl rfl, ?_⟩
                    exact ⟨rfl, rfl, rfl, x, rfl, y, rfl, z, rfl, (((H.drop 0).drop 0).drop 0).perm (.trans (.cons _ (.swap _ _ _)) (.swap _ _ _))⟩
            ·
              have H0 := H
              refine alloc_h H hi2 hz2 ?_
              intro z wz H Mz
              refine ⟨.inr (by simp [promsOk, promOk]; exact same_blk (H0.blk 2 rfl) (H.blk 2 rfl)), ?_⟩
              refine wp_alt ?_ ?_
              ·
                refine call_r _ (small_c a'' b'') rfl ?_
                rintro r wr ⟨rfl, Mr⟩
                replace H := H.same Mr
                refine ⟨trivial, ?_⟩
                refine wp_alt ?_ ?_
                ·
                  refine alloc_h H hi2 hz2 ?_
                  intro x wx H Mx
                  refine ⟨.inl rfl, ?_⟩
                  refine alloc_h H hi2 hz2 ?_
                  intro y wy H My
                  refine ⟨.inl rfl, ?_⟩
                  refine stAll_h 4 H rfl (v := rV (1 + a % 8) (1 + b % 16)) rfl rfl rfl rfl (rV_one _ _) ?_
                  intro ws H
                  refine ⟨.inl rfl, ?_⟩
                  refine stAll_h 5 H rfl (v := rV (1 + a' % 8) (1 + b' % 16)) rfl rfl rfl rfl (rV_one _ _) ?_
                  intro ws H
                  refine ⟨.inl rfl, ?_⟩
                  refine stAll_h 3 H rfl (v := rV (1 + a'' % 8) (1 + b'' % 16)) rfl rfl rfl rfl (rV_one _ _) ?_
                  intro ws H
                  refine ⟨.inl rfl, ?_⟩
                  exact ⟨rfl, rfl, rfl, x, rfl, y, rfl, z, rfl, (((H.drop 0).drop 0).drop 0).perm (.trans (.swap _ _ _) (.cons _ (.swap _ _ _)))⟩
                ·
                  refine alloc_h H hi2 hz2 ?_
                  intro y wy H My
                  refine ⟨.inl rfl, ?_⟩
                  refine alloc_h H hi2 hz2 ?_
                  intro x wx H Mx
                  refine ⟨.inl rfl, ?_⟩
                  refine stAll_h 5 H rfl (v := rV (1 + a % 8) (1 + b % 16)) rfl rfl rfl rfl (rV_one _ _) ?_
                  intro ws H
                  refine ⟨.inl rfl, ?_⟩
                  refine stAll_h 4 H rfl (v := rV (1 + a' % 8) (1 + b' % 16)) rfl rfl rfl rfl (rV_one _ _) ?_
                  intro ws H
                  refine ⟨.inl rfl, ?_⟩
                  refine stAll_h 3 H rfl (v := rV (1 + a'' % 8) (1 + b'' % 16)) rfl rfl rfl rfl (rV_one _ _) ?_
                  intro ws H
                  refine ⟨.inl rfl, ?_⟩
                  exact ⟨rfl, rfl, rfl, x, rfl, y, rfl, z, rfl, (((H.drop 0).drop 0).drop 0).perm (.trans (.swap _ _ _) (.trans (.cons _ (.swap _ _ _)) (.swap _ _ _)))⟩
              ·
                refine wp_alt ?_ ?_
                ·
                  have H0 := H
                  refine alloc_h H hi2 hz2 ?_
                  intro x wx H Mx
                  refine ⟨.inr (by simp [promsOk, promOk]; exact same_blk (H0.blk 2 rfl) (H.blk 2 rfl)), ?_⟩
                  refine wp_alt ?_ ?_
                  ·
                    refine call_r _ (small_c a'' b'') rfl ?_
                    rintro r wr ⟨rfl, Mr⟩
                    replace H := H.same Mr
                    refine ⟨trivial, ?_⟩
                    refine alloc_h H hi2 hz2 ?_
                    intro y wy H My
                    refine ⟨.inl rfl, ?_⟩
                    refine stAll_h 4 H rfl (v := rV (1 + a % 8) (1 + b % 16)) rfl rfl rfl rfl (rV_one _ _) ?_
                    intro ws H
                    refine ⟨.inl rfl, ?_⟩
                    refine stAll_h 5 H rfl (v := rV (1 + a' % 8) (1 + b' % 16)) rfl rfl rfl rfl (rV_one _ _) ?_
                    intro ws H
                    refine ⟨.inl rfl, ?_⟩
                    refine stAll_h 3 H rfl (v := rV (1 + a'' % 8) (1 + b'' % 16)) rfl rfl rfl rfl (rV_one _ _) ?_
                    intro ws H
                    refine ⟨.inl rfl, ?_⟩
                    exact ⟨rfl, rfl, rfl, x, rfl, y, rfl, z, rfl, (((H.drop 0).drop 0).drop 0).perm (.trans (.swap _ _ _) (.cons _ (.swap _ _ _)))⟩
                  ·
                    have H0 := H
                    refine alloc_h H hi2 hz2 ?_
                    intro y wy H My
                    refine ⟨.inr (by simp [promsOk, promOk]; exact same_blk (H0.blk 2 rfl) (H.blk 2 rfl)), ?_⟩
                    refine call_r _ (small_c a'' b'') rfl ?_
                    rintro r wr ⟨rfl, Mr⟩
                    replace H := H.same Mr
                    refine ⟨trivial, ?_⟩
                    refine stAll_h 4 H rfl (v := rV (1 + a % 8) (1 + b % 16)) rfl rfl rfl rfl (rV_one _ _) ?_
                    intro ws H
                    refine ⟨.inl rfl, ?_⟩
                    refine stAll_h 5 H rfl (v := rV (1 + a' % 8) (1 + b' % 16)) rfl rfl rfl rfl (rV_one _ _) ?_
                    intro ws H
                    refine ⟨.inl rfl, ?_⟩
                    refine stAll_h 3 H rfl (v := rV (1 + a'' % 8) (1 + b'' % 16)) rfl rfl rfl rfl (rV_one _ _) ?_
                    intro ws H
                    refine ⟨.inl rfl, ?_⟩
                    exact ⟨rfl, rfl, rfl, x, rfl, y, rfl, z, rfl, (((H.drop 0).drop 0).drop 0).perm (.trans (.swap _ _ _) (.cons _ (.swap _ _ _)))⟩
                ·
                  have H0 := H
                  refine alloc_h H hi2 hz2 ?_
                  intro y wy H My
                  refine ⟨.inr (by simp [promsOk, promOk]; exact same_blk (H0.blk 2 rfl) (H.blk 2 rfl)), ?_⟩
                  refine wp_alt ?_ ?_
                  ·
                    refine call_r _ (small_c a'' b'') rfl ?_
                    rintro r wr ⟨rfl, Mr⟩
                    replace H := H.same Mr
                    refine ⟨trivial, ?_⟩
                    refine alloc_h H hi2 hz2 ?_
                    intro x wx H Mx
                    refine ⟨.inl rfl, ?_⟩
                    refine stAll_h 5 H rfl (v := rV (1 + a % 8) (1 + b % 16)) rfl rfl rfl rfl (rV_one _ _) ?_
                    intro ws H
                    refine ⟨.inl rfl, ?_⟩
                    refine stAll_h 4 H rfl (v := rV (1 + a' % 8) (1 + b' % 16)) rfl rfl rfl rfl (rV_one _ _) ?_
                    intro ws H
                    refine ⟨.inl rfl, ?_⟩
                    refine stAll_h 3 H rfl (v := rV (1 + a'' % 8) (1 + b'' % 16)) rfl rfl rfl rfl (rV_one _ _) ?_
                    intro ws H
                    refine ⟨.inl rfl, ?_⟩
                    exact ⟨rfl, rfl, rfl, x, rfl, y, rfl, z, rfl, (((H.drop 0).drop 0).drop 0).perm (.trans (.swap _ _ _) (.trans (.cons _ (.swap _ _ _)) (.swap _ _ _)))⟩
                  ·
                    have H0 := H
                    refine alloc_h H hi2 hz2 ?_
                    intro x wx H Mx
                    refine ⟨.inr (by simp [promsOk, promOk]; exact same_blk (H0.blk 2 rfl) (H.blk 2 rfl)), ?_⟩
                    refine call_r _ (small_c a'' b'') rfl ?_
                    rintro r wr ⟨rfl, Mr⟩
                    replace H := H.same Mr
                    refine ⟨trivial, ?_⟩
                    refine stAll_h 5 H rfl (v := rV (1 + a % 8) (1 + b % 16)) rfl rfl rfl rfl (rV_one _ _) ?_
                    intro ws H
                    refine ⟨.inl rfl, ?_⟩
                    refine stAll_h 4 H rfl (v := rV (1 + a' % 8) (1 + b' % 16)) rfl rfl rfl rfl (rV_one _ _) ?_
                    intro ws H
                    refine ⟨.inl rfl, ?_⟩
                    refine stAll_h 3 H rfl (v := rV (1 + a'' % 8) (1 + b'' % 16)) rfl rfl rfl rfl (rV_one _ _) ?_
                    intro ws H
                    refine ⟨.inl rfl, ?_⟩
                    exact ⟨rfl, rfl, rfl, x, rfl, y, rfl, z, rfl, (((H.drop 0).drop 0).drop 0).perm (.trans (.swap _ _ _) (.trans (.cons _ (.swap _ _ _)) (.swap _ _ _)))⟩
      ·
        refine wp_alt ?_ ?_
        ·
          have H0 := H
          refine alloc_h H hi2 hz2 ?_
          intro x wx H Mx
          refine ⟨.inr (by simp [promsOk, promOk]; exact ⟨same_blk (H0.blk 2 rfl) (H.blk 2 rfl), same_blk (H0.blk 1 rfl) (H.blk 1 rfl)⟩), ?_⟩
          refine wp_alt ?_ ?_
          ·
            refine call_r _ (small_c a' b') rfl ?_
            rintro r wr ⟨rfl, Mr⟩
            have H0 := H
            replace H := H.same Mr
            refine ⟨by simp [promOk]; exact same_blk (H0.blk 2 rfl) (H.blk 2 rfl), ?_⟩
            refine wp_alt ?_ ?_
            ·
              refine call_r _ (small_c a'' b'') rfl ?_
              rintro r wr ⟨rfl, Mr⟩
              replace H := H.same Mr
              refine ⟨trivial, ?_⟩
              refine wp_alt ?_ ?_
              ·
                refine alloc_h H hi2 hz2 ?_
                intro y wy H My
                refine ⟨.inl rfl, ?_⟩
                refine alloc_h H hi2 hz2 ?_
                intro z wz H Mz
                refine ⟨.inl rfl, ?_⟩
                refine stAll_h 3 H rfl (v := rV (1 + a % 8) (1 + b % 16)) rfl rfl rfl rfl (rV_one _ _) ?_
                intro ws H
                refine ⟨.inl rfl, ?_⟩
                refine stAll_h 4 H rfl (v := rV (1 + a' % 8) (1 + b' % 16)) rfl rfl rfl rfl (rV_one _ _) ?_
                intro ws H
                refine ⟨.inl rfl, ?_⟩
                refine stAll_h 5 H rfl (v := rV (1 + a'' % 8) (1 + b'' % 16)) rfl rfl rfl rfl (rV_one _ _) ?_
                intro ws H
                refine ⟨.inl rfl, ?_⟩
                exact ⟨rfl, rfl, rfl, x, rfl, y, rfl, z, rfl, (((H.drop 0).drop 0).drop 0).perm (.refl _)⟩
              ·
                refine alloc_h H hi2 hz2 ?_
                intro z wz H Mz
                refine ⟨.inl rfl, ?_⟩
                refine alloc_h H hi2 hz2 ?_
                intro y wy H My
                refine ⟨.inl rfl, ?_⟩
                refine stAll_h 3 H rfl (v := rV (1 + a % 8) (1 + b % 16)) rfl rfl rfl rfl (rV_one _ _) ?_
                intro ws H
                refine ⟨.inl rfl, ?_⟩
                refine stAll_h 5 H rfl (v := rV (1 + a' % 8) (1 + b' % 16)) rfl rfl rfl rfl (rV_one _ _) ?_
                intro ws H
                refine ⟨.inl rfl, ?_⟩
                refine stAll_h 4 H rfl (v := rV (1 + a'' % 8) (1 + b'' % 16)) rfl rfl rfl rfl (rV_one _ _) ?_
                intro ws H
                refine ⟨.inl rfl, ?_⟩
                exact ⟨rfl, rfl, rfl, x, rfl, y, rfl, z, rfl, (((H.drop 0).drop 0).drop 0).perm (.cons _ (.swap _ _ _))⟩
            ·
              refine wp_alt ?_ ?_
              ·
                have H0 := H
                refine alloc_h H hi2 hz2 ?_
                intro y wy H My
                refine ⟨.inr (by simp [promsOk, promOk]; exact same_blk (H0.blk 2 rfl) (H.blk 2 rfl)), ?_⟩
                refine wp_alt ?_ ?_
                ·
                  refine call_r _ (small_c a'' b'') rfl ?_
                  rintro r wr ⟨rfl, Mr⟩
                  replace H := H.same Mr
                  refine ⟨trivial, ?_⟩
                  refine alloc_h H hi2 hz2 ?_
                  intro z wz H Mz
                  refine ⟨.inl rfl, ?_⟩
                  refine stAll_h 3 H rfl (v := rV (1 + a % 8) (1 + b % 16)) rfl rfl rfl rfl (rV_one _ _) ?_
                  intro ws H
                  refine ⟨.inl rfl, ?_⟩
                  refine stAll_h 4 H rfl (v := rV (1 + a' % 8) (1 + b' % 16)) rfl rfl rfl rfl (rV_one _ _) ?_
                  intro ws H
                  refine ⟨.inl rfl, ?_⟩
                  refine stAll_h 5 H rfl (v := rV (1 + a'' % 8) (1 + b'' % 16)) rfl rfl rfl rfl (rV_one _ _) ?_
                  intro ws H
                  refine ⟨.inl rfl, ?_⟩
                  exact ⟨rfl, rfl, rfl, x, rfl, y, rfl, z, rfl, (((H.drop 0).drop 0).drop 0).perm (.refl _)⟩
                ·
                  have H0 := H
                  refine alloc_h H hi2 hz2 ?_
                  intro z wz H Mz
                  refine ⟨.inr (by simp [promsOk, promOk]; exact same_blk (H0.blk 2 rfl) (H.blk 2 rfl)), ?_⟩
                  refine call_r _ (small_c a'' b'') rfl ?_
                  rintro r wr ⟨rfl, Mr⟩
                  replace H := H.same Mr
                  refine ⟨trivial, ?_⟩
                  refine stAll_h 3 H rfl (v := rV (1 + a % 8) (1 + b % 16)) rfl rfl rfl rfl (rV_one _ _) ?_
                  intro ws H
                  refine ⟨.inl rfl, ?_⟩
                  refine stAll_h 4 H rfl (v := rV (1 + a' % 8) (1 + b' % 16)) rfl rfl rfl rfl (rV_one _ _) ?_
                  intro ws H
                  refine ⟨.inl rfl, ?_⟩
                  refine stAll_h 5 H rfl (v := rV (1 + a'' % 8) (1 + b'' % 16)) rfl rfl rfl rfl (rV_one _ _) ?_
                  intro ws H
                  refine ⟨.inl rfl, ?_⟩
                  exact ⟨rfl, rfl, rfl, x, rfl, y, rfl, z, rfl, (((H.drop 0).drop 0).drop 0).perm (.refl _)⟩
              ·
                have H0 := H
                refine alloc_h H hi2 hz2 ?_
                intro z wz H Mz
                refine ⟨.inr (by simp [promsOk, promOk]; exact same_blk (H0.blk 2 rfl) (H.blk 2 rfl)), ?_⟩
                refine wp_alt ?_ ?_
                ·
                  refine call_r _ (small_c a'' b'') rfl ?_
                  rintro r wr ⟨rfl, Mr⟩
                  replace H := H.same Mr
                  refine ⟨trivial, ?_⟩
                  refine alloc_h H hi2 hz2 ?_
                  intro y wy H My
                  refine ⟨.inl rfl, ?_⟩
                  refine stAll_h 3 H rfl (v := rV (1 + a % 8) (1 + b % 16)) rfl rfl rfl rfl (rV_one _ _) ?_
                  intro ws H
                  refine ⟨.inl rfl, ?_⟩
                  refine stAll_h 5 H rfl (v := rV (1 + a' % 8) (1 + b' % 16)) rfl rfl rfl rfl (rV_one _ _) ?_
                  intro ws H
                  refine ⟨.inl rfl, ?_⟩
                  refine stAll_h 4 H rfl (v := rV (1 + a'' % 8) (1 + b'' % 16)) rfl rfl rfl rfl (rV_one _ _) ?_
                  intro ws H
                  refine ⟨.inl rfl, ?_⟩
                  exact ⟨rfl, rfl, rfl, x, rfl, y, rfl, z, rfl, (((H.drop 0).drop 0).drop 0).perm (.cons _ (.swap _ _ _))⟩
                ·
                  have H0 := H
                  refine alloc_h H hi2 hz2 ?_
                  intro y wy H My
                  refine ⟨.inr (by simp [promsOk, promOk]; exact same_blk (H0.blk 2 rfl) (H.blk 2 rfl)), ?_⟩
                  refine call_r _ (small_c a'' b'') rfl ?_
                  rintro r wr ⟨rfl, Mr⟩
                  replace H := H.same Mr
                  refine ⟨trivial, ?_⟩
                  refine stAll_h 3 H rfl (v := rV (1 + a % 8) (1 + b % 16)) rfl rfl rfl rfl (rV_one _ _) ?_
                  intro ws H
                  refine ⟨.inl rfl, ?_⟩
                  refine stAll_h 5 H rfl (v := rV (1 + a' % 8) (1 + b' % 16)) rfl rfl rfl rfl (rV_one _ _) ?_
                  intro ws H
                  refine ⟨.inl rfl, ?_⟩
                  refine stAll_h 4 H rfl (v := rV (1 + a'' % 8) (1 + b'' % 16)) rfl rfl rfl rfl (rV_one _ _) ?_
                  intro ws H
                  refine ⟨.inl rfl, ?_⟩
                  exact ⟨rfl, rfl, rfl, x, rfl, y, rfl, z, rfl, (((H.drop 0).drop 0).drop 0).perm (.cons _ (.swap _ _ _))⟩
          ·
            refine wp_alt ?_ ?_
            ·
              have H0 := H
              refine alloc_h H hi2 hz2 ?_
              intro y wy H My
              refine ⟨.inr (by simp [promsOk, promOk]; exact ⟨same_blk (H0.blk 2 rfl) (H.blk 2 rfl), same_blk (H0.blk 1 rfl) (H.blk 1 rfl)⟩), ?_⟩
              refine wp_alt ?_ ?_
              ·
                refine call_r _ (small_c a' b') rfl ?_
                rintro r wr ⟨rfl, Mr⟩
                have H0 := H
                replace H := H.same Mr
                refine ⟨by simp [promOk]; exact same_blk (H0.blk 2 rfl) (H.blk 2 rfl), ?_⟩
                refine wp_alt ?_ ?_
                ·
                  refine call_r _ (small_c a'' b'') rfl ?_
                  rintro r wr ⟨rfl, Mr⟩
                  replace H := H.same Mr
                  refine ⟨trivial, ?_⟩
                  refine alloc_h H hi2 hz2 ?_
                  intro z wz H Mz
                  refine ⟨.inl rfl, ?_⟩
                  refine stAll_h 3 H rfl (v := rV (1 + a % 8) (1 + b % 16)) rfl rfl rfl rfl (rV_one _ _) ?_
                  intro ws H
                  refine ⟨.inl rfl, ?_⟩
                  refine stAll_h 4 H rfl (v := rV (1 + a' % 8) (1 + b' % 16)) rfl rfl rfl rfl (rV_one _ _) ?_
                  intro ws H
                  refine ⟨.inl rfl, ?_⟩
                  refine stAll_h 5 H rfl (v := rV (1 + a'' % 8) (1 + b'' % 16)) rfl rfl rfl rfl (rV_one _ _) ?_
                  intro ws H
                  refine ⟨.inl rfl, ?_⟩
                  exact ⟨rfl, rfl, rfl, x, rfl, y, rfl, z, rfl, (((H.drop 0).drop 0).drop 0).perm (.refl _)⟩
                ·
                  have H0 := H
                  refine alloc_h H hi2 hz2 ?_
                  intro z wz H Mz
                  refine ⟨.inr (by simp [promsOk, promOk]; exact same_blk (H0.blk 2 rfl) (H.blk 2 rfl)), ?_⟩
                  refine call_r _ (small_c a'' b'') rfl ?_
                  rintro r wr ⟨rfl, Mr⟩
                  replace H := H.same Mr
                  refine ⟨trivial, ?_⟩
                  refine stAll_h 3 H rfl (v := rV (1 + a % 8) (1 + b % 16)) rfl rfl rfl rfl (rV_one _ _) ?_
                  intro ws H
                  refine ⟨.inl rfl, ?_⟩
                  refine stAll_h 4 H rfl (v := rV (1 + a' % 8) (1 + b' % 16)) rfl rfl rfl rfl (rV_one _ _) ?_
                  intro ws H
                  refine ⟨.inl rfl, ?_⟩
                  refine stAll_h 5 H rfl (v := rV (1 + a'' % 8) (1 + b'' % 16)) rfl rfl rfl rfl (rV_one _ _) ?_
                  intro ws H
                  refine ⟨.inl rfl, ?_⟩
                  exact ⟨rfl, rfl, rfl, x, rfl, y, rfl, z, rfl, (((H.drop 0).drop 0).drop 0).perm (.refl _)⟩
              ·
                have H0 := H
                refine alloc_h H hi2 hz2 ?_
                intro z wz H Mz
                refine ⟨.inr (by simp [promsOk, promOk]; exact ⟨same_blk (H0.blk 2 rfl) (H.blk 2 rfl), same_blk (H0.blk 1 rfl) (H.blk 1 rfl)⟩), ?_⟩
                refine call_r _ (small_c a' b') rfl ?_
                rintro r wr ⟨rfl, Mr⟩
                have H0 := H
                replace H := H.same Mr
                refine ⟨by simp [promOk]; exact same_blk (H0.blk 2 rfl) (H.blk 2 rfl), ?_⟩
                refine call_r _ (small_c a'' b'') rfl ?_
                rintro r wr ⟨rfl, Mr⟩
                replace H := H.same Mr
                refine ⟨trivial, ?_⟩
                refine stAll_h 3 H rfl (v := rV (1 + a % 8) (1 + b % 16)) rfl rfl rfl rfl (rV_one _ _) ?_
                intro ws H
                refine ⟨.inl rfl, ?_⟩
                refine stAll_h 4 H rfl (v := rV (1 + a' % 8) (1 + b' % 16)) rfl rfl rfl rfl (rV_one _ _) ?_
                intro ws H
                refine ⟨.inl rfl, ?_⟩
                refine stAll_h 5 H rfl (v := rV (1 + a'' % 8) (1 + b'' % 16)) rfl rfl rfl rfl (rV_one _ _) ?_
                intro ws H
                refine ⟨.inl rfl, ?_⟩
                exact ⟨rfl, rfl, rfl, x, rfl, y, rfl, z, rfl, (((H.drop 0).drop 0).drop 0).perm (.refl _)⟩
            ·
              have H0 := H
              refine alloc_h H hi2 hz2 ?_
              intro z wz H Mz
              refine ⟨.inr (by simp [promsOk, promOk]; exact ⟨same_blk (H0.blk 2 rfl) (H.blk 2 rfl), same_blk (H0.blk 1 rfl) (H.blk 1 rfl)⟩), ?_⟩
              refine wp_alt ?_ ?_
              ·
                refine call_r _ (small_c a' b') rfl ?_
                rintro r wr ⟨rfl, Mr⟩
                have H0 := H
                replace H := H.same Mr
                refine ⟨by simp [promOk]; exact same_blk (H0.blk 2 rfl) (H.blk 2 rfl), ?_⟩
                refine wp_alt ?_ ?_
                ·
                  refine call_r _ (small_c a'' b'') rfl ?_
                  rintro r wr ⟨rfl, Mr⟩
                  replace H := H.same Mr
                  refine ⟨trivial, ?_⟩
                  refine alloc_h H hi2 hz2 ?_
                  intro y wy H My
                  refine ⟨.inl rfl, ?_⟩
                  refine stAll_h 3 H rfl (v := rV (1 + a % 8) (1 + b % 16)) rfl rfl rfl rfl (rV_one _ _) ?_
                  intro ws H
                  refine ⟨.inl rfl, ?_⟩
                  refine stAll_h 5 H rfl (v := rV (1 + a' % 8) (1 + b' % 16)) rfl rfl rfl rfl (rV_one _ _) ?_
                  intro ws H
                  refine ⟨.inl rfl, ?_⟩
                  refine stAll_h 4 H rfl (v := rV (1 + a'' % 8) (1 + b'' % 16)) rfl rfl rfl rfl (rV_one _ _) ?_
                  intro ws H
                  refine ⟨.inl rfl, ?_⟩
                  exact ⟨rfl, rfl, rfl, x, rfl, y, rfl, z, rfl, (((H.drop 0).drop 0).drop 0).perm (.cons _ (.swap _ _ _))⟩
                ·
                  have H0 := H
                  refine alloc_h H hi2 hz2 ?_
                  intro y wy H My
                  refine ⟨.inr (by simp [promsOk, promOk]; exact same_blk (H0.blk 2 rfl) (H.blk 2 rfl)), ?_⟩
                  refine call_r _ (small_c a'' b'') rfl ?_
                  rintro r wr ⟨rfl, Mr⟩
                  replace H := H.same Mr
                  refine ⟨trivial, ?_⟩
                  refine stAll_h 3 H rfl (v := rV (1 + a % 8) (1 + b % 16)) rfl rfl rfl rfl (rV_one _ _) ?_
                  intro ws H
                  refine ⟨.inl rfl, ?_⟩
                  refine stAll_h 5 H rfl (v := rV (1 + a' % 8) (1 + b' % 16)) rfl rfl rfl rfl (rV_one _ _) ?_
                  intro ws H
                  refine ⟨.inl rfl, ?_⟩
                  refine stAll_h 4 H rfl (v := rV (1 + a'' % 8) (1 + b'' % 16)) rfl rfl rfl rfl (rV_one _ _) ?_
                  intro ws H
                  refine ⟨.inl rfl, ?_⟩
                  exact ⟨rfl, rfl, rfl, x, rfl, y, rfl, z, rfl, (((H.drop 0).drop 0).drop 0).perm (.cons _ (.swap _ _ _))⟩
              ·
                have H0 := H
                refine alloc_h H hi2 hz2 ?_
                intro y wy H My
                refine ⟨.inr (by simp [promsOk, promOk]; exact ⟨same_blk (H0.blk 2 rfl) (H.blk 2 rfl), same_blk (H0.blk 1 rfl) (H.blk 1 rfl)⟩), ?_⟩
                refine call_r _ (small_c a' b') rfl ?_
                rintro r wr ⟨rfl, Mr⟩
                have H0 := H
                replace H := H.same Mr
                refine ⟨by simp [promOk]; exact same_blk (H0.blk 2 rfl) (H.blk 2 rfl), ?_⟩
                refine call_r _ (small_c a'' b'') rfl ?_
                rintro r wr ⟨rfl, Mr⟩
                replace H := H.same Mr
                refine ⟨trivial, ?_⟩
                refine stAll_h 3 H rfl (v := rV (1 + a % 8) (1 + b % 16)) rfl rfl rfl rfl (rV_one _ _) ?_
                intro ws H
                refine ⟨.inl rfl, ?_⟩
                refine stAll_h 5 H rfl (v := rV (1 + a' % 8) (1 + b' % 16)) rfl rfl rfl rfl (rV_one _ _) ?_
                intro ws H
                refine ⟨.inl rfl, ?_⟩
                refine stAll_h 4 H rfl (v := rV (1 + a'' % 8) (1 + b'' % 16)) rfl rfl rfl rfl (rV_one _ _) ?_
                intro ws H
                refine ⟨.inl rfl, ?_⟩
                exact ⟨rfl, rfl, rfl, x, rfl, y, rfl, z, rfl, (((H.drop 0).drop 0).drop 0).perm (.cons _ (.swap _ _ _))⟩
        ·
          refine wp_alt ?_ ?_
          ·
            have H0 := H
            refine alloc_h H hi2 hz2 ?_
            intro y wy H My
            refine ⟨.inr (by simp [promsOk, promOk]; exact ⟨same_blk (H0.blk 2 rfl) (H.blk 2 rfl), same_blk (H0.blk 1 rfl) (H.blk 1 rfl)⟩), ?_⟩
            refine wp_alt ?_ ?_
            ·
              refine call_r _ (small_c a' b') rfl ?_
              rintro r wr ⟨rfl, Mr⟩
              have H0 := H
              replace H := H.same Mr
              refine ⟨by simp [promOk]; exact same_blk (H0.blk 2 rfl) (H.blk 2 rfl), ?_⟩
              refine wp_alt ?_ ?_
              ·
                refine call_r _ (small_c a'' b'') rfl ?_
                rintro r wr ⟨rfl, Mr⟩
                replace H := H.same Mr
                refine ⟨trivial, ?_⟩
                refine wp_alt ?_ ?_
                ·
                  refine alloc_h H hi2 hz2 ?_
                  intro x wx H Mx
                  refine ⟨.inl rfl, ?_⟩
                  refine alloc_h H hi2 hz2 ?_
                  intro z wz H Mz
                  refine ⟨.inl rfl, ?_⟩
                  refine stAll_h 4 H rfl (v := rV (1 + a % 8) (1 + b % 16)) rfl rfl rfl rfl (rV_one _ _) ?_
                  intro ws H
                  refine ⟨.inl rfl, ?_⟩
                  refine stAll_h 3 H rfl (v := rV (1 + a' % 8) (1 + b' % 16)) rfl rfl rfl rfl (rV_one _ _) ?_
                  intro ws H
                  refine ⟨.inl rfl, ?_⟩
                  refine stAll_h 5 H rfl (v := rV (1 + a'' % 8) (1 + b'' % 16)) rfl rfl rfl rfl (rV_one _ _) ?_
                  intro ws H
                  refine ⟨.inl rfl, ?_⟩
                  exact ⟨rfl, rfl, rfl, x, rfl, y, rfl, z, rfl, (((H.drop 0).drop 0).drop 0).perm (.swap _ _ _)⟩
                ·
                  refine alloc_h H hi2 hz2 ?_
                  intro z wz H Mz
                  refine ⟨.inl rfl, ?_⟩
                  refine alloc_h H hi2 hz2 ?_
                  intro x wx H Mx
                  refine ⟨.inl rfl, ?_⟩
                  refine stAll_h 5 H rfl (v := rV (1 + a % 8) (1 + b % 16)) rfl rfl rfl rfl (rV_one _ _) ?_
                  intro ws H
                  refine ⟨.inl rfl, ?_⟩
                  refine stAll_h 3 H rfl (v := rV (1 + a' % 8) (1 + b' % 16)) rfl rfl rfl rfl (rV_one _ _) ?_
                  intro ws H
                  refine ⟨.inl rfl, ?_⟩
                  refine stAll_h 4 H rfl (v := rV (1 + a'' % 8) (1 + b'' % 16)) rfl rfl rfl rfl (rV_one _ _) ?_
                  intro ws H
                  refine ⟨.inl rfl, ?_⟩
                  exact ⟨rfl, rfl, rfl, x, rfl, y, rfl, z, rfl, (((H.drop 0).drop 0).drop 0).perm (.trans (.cons _ (.swap _ _ _)) (.swap _ _ _))⟩
              ·
                refine wp_alt ?_ ?_
                ·
                  have H0 := H
                  refine alloc_h H hi2 hz2 ?_
                  intro x wx H Mx
                  refine ⟨.inr (by simp [promsOk, promOk]; exact same_blk (H0.blk 2 rfl) (H.blk 2 rfl)), ?_⟩
                  refine wp_alt ?_ ?_
                  ·
                    refine call_r _ (small_c a'' b'') rfl ?_
                    rintro r wr ⟨rfl, Mr⟩
                    replace H := H.same Mr
                    refine ⟨trivial, ?_⟩
                    refine alloc_h H hi2 hz2 ?_
                    intro z wz H Mz
                    refine ⟨.inl rfl, ?_⟩
                    refine stAll_h 4 H rfl (v := rV (1 + a % 8) (1 + b % 16)) rfl rfl rfl rfl (rV_one _ _) ?_
                    intro ws H
                    refine ⟨.inl rfl, ?_⟩
                    refine stAll_h 3 H rfl (v := rV (1 + a' % 8) (1 + b' % 16)) rfl rfl rfl rfl (rV_one _ _) ?_
                    intro ws H
                    refine ⟨.inl rfl, ?_⟩
                    refine stAll_h 5 H rfl (v := rV (1 + a'' % 8) (1 + b'' % 16)) rfl rfl rfl rfl (rV_one _ _) ?_
                    intro ws H
                    refine ⟨.inl rfl, ?_⟩
                    exact ⟨rfl, rfl, rfl, x, rfl, y, rfl, z, rfl, (((H.drop 0).drop 0).drop 0).perm (.swap _ _ _)⟩
                  ·
                    have H0 := H
                    refine alloc_h H hi2 hz2 ?_
                    intro z wz H Mz
                    refine ⟨.inr (by simp [promsOk, promOk]; exact same_blk (H0.blk 2 rfl) (H.blk 2 rfl)), ?_⟩
                    refine call_r _ (small_c a'' b'') rfl ?_
                    rintro r wr ⟨rfl, Mr⟩
                    replace H := H.same Mr
                    refine ⟨trivial, ?_⟩
                    refine stAll_h 4 H rfl (v := rV (1 + a % 8) (1 + b % 16)) rfl rfl rfl rfl (rV_one _ _) ?_
                    intro ws H
                    refine ⟨.inl rfl, ?_⟩
                    refine stAll_h 3 H rfl (v := rV (1 + a' % 8) (1 + b' % 16)) rfl rfl rfl rfl (rV_one _ _) ?_
                    intro ws H
                    refine ⟨.inl rfl, ?_⟩
                    refine stAll_h 5 H rfl (v := rV (1 + a'' % 8) (1 + b'' % 16)) rfl rfl rfl rfl (rV_one _ _) ?_
                    intro ws H
                    refine ⟨.inl rfl, ?_⟩
                    exact ⟨rfl, rfl, rfl, x, rfl, y, rfl, z, rfl, (((H.drop 0).drop 0).drop 0).perm (.swap _ _ _)⟩
                ·
                  have H0 := H
                  refine alloc_h H hi2 hz2 ?_
                  intro z wz H Mz
                  refine ⟨.inr (by simp [promsOk, promOk]; exact same_blk (H0.blk 2 rfl) (H.blk 2 rfl)), ?_⟩
                  refine wp_alt ?_ ?_
                  ·
                    refine call_r _ (small_c a'' b'') rfl ?_
                    rintro r wr ⟨rfl, Mr⟩
                    replace H := H.same Mr
                    refine ⟨trivial, ?_⟩
                    refine alloc_h H hi2 hz2 ?_
                    intro x wx H Mx
                    refine ⟨.inl rfl, ?_⟩
                    refine stAll_h 5 H rfl (v := rV (1 + a % 8) (1 + b % 16)) rfl rfl rfl rfl (rV_one _ _) ?_
                    intro ws H
                    refine ⟨.inl rfl, ?_⟩
                    refine stAll_h 3 H rfl (v := rV (1 + a' % 8) (1 + b' % 16)) rfl rfl rfl rfl (rV_one _ _) ?_
                    intro ws H
                    refine ⟨.inl rfl, ?_⟩
                    refine stAll_h 4 H rfl (v := rV (1 + a'' % 8) (1 + b'' % 16)) rfl rfl rfl rfl (rV_one _ _) ?_
                    intro ws H
                    refine ⟨.inl rfl, ?_⟩
                    exact ⟨rfl, rfl, rfl, x, rfl, y, rfl, z, rfl, (((H.drop 0).drop 0).drop 0).perm (.trans (.cons _ (.swap _ _ _)) (.swap _ _ _))⟩
                  ·
                    have H0 := H
                    refine alloc_h H hi2 hz2 ?_
                    intro x wx H Mx
                    refine ⟨.inr (by simp [promsOk, promOk]; exact same_blk (H0.blk 2 rfl) (H.blk 2 rfl)), ?_⟩
                    refine call_r _ (small_c a'' b'') rfl ?_
                    rintro r wr ⟨rfl, Mr⟩
                    replace H := H.same Mr
                    refine ⟨trivial, ?_⟩
                    refine stAll_h 5 H rfl (v := rV (1 + a % 8) (1 + b % 16)) rfl rfl rfl rfl (rV_one _ _) ?_
                    intro ws H
                    refine ⟨.inl rfl, ?_⟩
                    refine stAll_h 3 H rfl (v := rV (1 + a' % 8) (1 + b' % 16)) rfl rfl rfl rfl (rV_one _ _) ?_
                    intro ws H
                    refine ⟨.inl rfl, ?_⟩
                    refine stAll_h 4 H rfl (v := rV (1 + a'' % 8) (1 + b'' % 16)) rfl rfl rfl rfl (rV_one _ _) ?_
                    intro ws H
                    refine ⟨.inl rfl, ?_⟩
                    exact ⟨rfl, rfl, rfl, x, rfl, y, rfl, z, rfl, (((H.drop 0).drop 0).drop 0).perm (.trans (.cons _ (.swap _ _ _)) (.swap _ _ _))⟩
            ·
              refine wp_alt ?_ ?_
              ·
                have H0 := H
                refine alloc_h H hi2 hz2 ?_
                intro x wx H Mx
                refine ⟨.inr (by simp [promsOk, promOk]; exact ⟨same_blk (H0.blk 2 rfl) (H.blk 2 rfl), same_blk (H0.blk 1 rfl) (H.blk 1 rfl)⟩), ?_⟩
                refine wp_alt ?_ ?_
                ·
                  refine call_r _ (small_c a' b') rfl ?_
                  rintro r wr ⟨rfl, Mr⟩
                  have H0 := H
                  replace H := H.same Mr
                  refine ⟨by simp [promOk]; exact same_blk (H0.blk 2 rfl) (H.blk 2 rfl), ?_⟩
                  refine wp_alt ?_ ?_
                  ·
                    refine call_r _ (small_c a'' b'') rfl ?_
                    rintro r wr ⟨rfl, Mr⟩
                    replace H := H.same Mr
                    refine ⟨trivial, ?_⟩
                    refine alloc_h H hi2 hz2 ?_
                    intro z wz H Mz
                    refine ⟨.inl rfl, ?_⟩
                    refine stAll_h 4 H rfl (v := rV (1 + a % 8) (1 + b % 16)) rfl rfl rfl rfl (rV_one _ _) ?_
                    intro ws H
                    refine ⟨.inl rfl, ?_⟩
                    refine stAll_h 3 H rfl (v := rV (1 + a' % 8) (1 + b' % 16)) rfl rfl rfl rfl (rV_one _ _) ?_
                    intro ws H
                    refine ⟨.inl rfl, ?_⟩
                    refine stAll_h 5 H rfl (v := rV (1 + a'' % 8) (1 + b'' % 16)) rfl rfl rfl rfl (rV_one _ _) ?_
                    intro ws H
                    refine ⟨.inl rfl, ?_⟩
                    exact ⟨rfl, rfl, rfl, x, rfl, y, rfl, z, rfl, (((H.drop 0).drop 0).drop 0).perm (.swap _ _ _)⟩
                  ·
                    have H0 := H
                    refine alloc_h H hi2 hz2 ?_
                    intro z wz H Mz
                    refine ⟨.inr (by simp [promsOk, promOk]; exact same_blk (H0.blk 2 rfl) (H.blk 2 rfl)), ?_⟩
                    refine call_r _ (small_c a'' b'') rfl ?_
                    rintro r wr ⟨rfl, Mr⟩
                    replace H := H.same Mr
                    refine ⟨trivial, ?_⟩
                    refine stAll_h 4 H rfl (v := rV (1 + a % 8) (1 + b % 16)) rfl rfl rfl rfl (rV_one _ _) ?_
                    intro ws H
                    refine ⟨.inl rfl, ?_⟩
                    refine stAll_h 3 H rfl (v := rV (1 + a' % 8) (1 + b' % 16)) rfl rfl rfl rfl (rV_one _ _) ?_
                    intro ws H
                    refine ⟨.inl rfl, ?_⟩
                    refine stAll_h 5 H rfl (v := rV (1 + a'' % 8) (1 + b'' % 16)) rfl rfl rfl rfl (rV_one _ _) ?_
                    intro ws H
                    refine ⟨.inl rfl, ?_⟩
                    exact ⟨rfl, rfl, rfl, x, rfl, y, rfl, z, rfl, (((H.drop 0).drop 0).drop 0).perm (.swap _ _ _)⟩
                ·
                  have H0 := H
                  refine alloc_h H hi2 hz2 ?_
                  intro z wz H Mz
                  refine ⟨.inr (by simp [promsOk, promOk]; exact ⟨same_blk (H0.blk 2 rfl) (H.blk 2 rfl), same_blk (H0.blk 1 rfl) (H.blk 1 rfl)⟩), ?_⟩
                  refine call_r _ (small_c a' b') rfl ?_
                  rintro r wr ⟨rfl, Mr⟩
                  have H0 := H
                  replace H := H.same Mr
                  refine ⟨by simp [promOk]; exact same_blk (H0.blk 2 rfl) (H.blk 2 rfl), ?_⟩
                  refine call_r _ (small_c a'' b'') rfl ?_
                  rintro r wr ⟨rfl, Mr⟩
                  replace H := H.same Mr
                  refine ⟨trivial, ?_⟩
                  refine stAll_h 4 H rfl (v := rV (1 + a % 8) (1 + b % 16)) rfl rfl rfl rfl (rV_one _ _) ?_
                  intro ws H
                  refine ⟨.inl rfl, ?_⟩
                  refine stAll_h 3 H rfl (v := rV (1 + a' % 8) (1 + b' % 16)) rfl rfl rfl rfl (rV_one _ _) ?_
                  intro ws H
                  refine ⟨.inl rfl, ?_⟩
                  refine stAll_h 5 H rfl (v := rV (1 + a'' % 8) (1 + b'' % 16)) rfl rfl rfl rfl (rV_one _ _) ?_
                  intro ws H
                  refine ⟨.inl rfl, ?_⟩
                  exact ⟨rfl, rfl, rfl, x, rfl, y, rfl, z, rfl, (((H.drop 0).drop 0).drop 0).perm (.swap _ _ _)⟩
              ·
                have H0 := H
                refine alloc_h H hi2 hz2 ?_
                intro z wz H Mz
                refine ⟨.inr (by simp [promsOk, promOk]; exact ⟨same_blk (H0.blk 2 rfl) (H.blk 2 rfl), same_blk (H0.blk 1 rfl) (H.blk 1 rfl)⟩), ?_⟩
                refine wp_alt ?_ ?_
                ·
                  refine call_r _ (small_c a' b') rfl ?_
                  rintro r wr ⟨rfl, Mr⟩
                  have H0 := H
                  replace H := H.same Mr
                  refine ⟨by simp [promOk]; exact same_blk (H0.blk 2 rfl) (H.blk 2 rfl), ?_⟩
                  refine wp_alt ?_ ?_
                  ·
                    refine call_r _ (small_c a'' b'') rfl ?_
                    rintro r wr ⟨rfl, Mr⟩
                    replace H := H.same Mr
                    refine ⟨trivial, ?_⟩
                    refine alloc_h H hi2 hz2 ?_
                    intro x wx H Mx
                    refine ⟨.inl rfl, ?_⟩
                    refine stAll_h 5 H rfl (v := rV (1 + a % 8) (1 + b % 16)) rfl rfl rfl rfl (rV_one _ _) ?_
                    intro ws H
                    refine ⟨.inl rfl, ?_⟩
                    refine stAll_h 3 H rfl (v := rV (1 + a' % 8) (1 + b' % 16)) rfl rfl rfl rfl (rV_one _ _) ?_
                    intro ws H
                    refine ⟨.inl rfl, ?_⟩
                    refine stAll_h 4 H rfl (v := rV (1 + a'' % 8) (1 + b'' % 16)) rfl rfl rfl rfl (rV_one _ _) ?_
                    intro ws H
                    refine ⟨.inl rfl, ?_⟩
                    exact ⟨rfl, rfl, rfl, x, rfl, y, rfl, z, rfl, (((H.drop 0).drop 0).drop 0).perm (.trans (.cons _ (.swap _ _ _)) (.swap _ _ _))⟩
                  ·
                    have H0 := H
                    refine alloc_h H hi2 hz2 ?_
                    intro x wx H Mx
                    refine ⟨.inr (by simp [promsOk, promOk]; exact same_blk (H0.blk 2 rfl) (H.blk 2 rfl)), ?_⟩
                    refine call_r _ (small_c a'' b'') rfl ?_
                    rintro r wr ⟨rfl, Mr⟩
                    replace H := H.same Mr
                    refine ⟨trivial, ?_⟩
                    refine stAll_h 5 H rfl (v := rV (1 + a % 8) (1 + b % 16)) rfl rfl rfl rfl (rV_one _ _) ?_
                    intro ws H
                    refine ⟨.inl rfl, ?_⟩
                    refine stAll_h 3 H rfl (v := rV (1 + a' % 8) (1 + b' % 16)) rfl rfl rfl rfl (rV_one _ _) ?_
                    intro ws H
                    refine ⟨.inl rfl, ?_⟩
                    refine stAll_h 4 H rfl (v := rV (1 + a'' % 8) (1 + b'' % 16)) rfl rfl rfl rfl (rV_one _ _) ?_
                    intro ws H
                    refine ⟨.inl rfl, ?_⟩
                    exact ⟨rfl, rfl, rfl, x, rfl, y, rfl, z, rfl, (((H.drop 0).drop 0).drop 0).perm (.trans (.cons _ (.swap _ _ _)) (.swap _ _ _))⟩
                ·
                  have H0 := H
                  refine alloc_h H hi2 hz2 ?_
                  intro x wx H Mx
                  refine ⟨.inr (by simp [promsOk, promOk]; exact ⟨same_blk (H0.blk 2 rfl) (H.blk 2 rfl), same_blk (H0.blk 1 rfl) (H.blk 1 rfl)⟩), ?_⟩
                  refine call_r _ (small_c a' b') rfl ?_
                  rintro r wr ⟨rfl, Mr⟩
                  have H0 := H
                  replace H := H.same Mr
                  refine ⟨by simp [promOk]; exact same_blk (H0.blk 2 rfl) (H.blk 2 rfl), ?_⟩
                  refine call_r _ (small_c a'' b'') rfl ?_
                  rintro r wr ⟨rfl, Mr⟩
                  replace H := H.same Mr
                  refine ⟨trivial, ?_⟩
                  refine stAll_h 5 H rfl (v := rV (1 + a % 8) (1 + b % 16)) rfl rfl rfl rfl (rV_one _ _) ?_
                  intro ws H
                  refine ⟨.inl rfl, ?_⟩
                  refine stAll_h 3 H rfl (v := rV (1 + a' % 8) (1 + b' % 16)) rfl rfl rfl rfl (rV_one _ _) ?_
                  intro ws H
                  refine ⟨.inl rfl, ?_⟩
                  refine stAll_h 4 H rfl (v := rV (1 + a'' % 8) (1 + b'' % 16)) rfl rfl rfl rfl (rV_one _ _) ?_
                  intro ws H
                  refine ⟨.inl rfl, ?_⟩
                  exact ⟨rfl, rfl, rfl, x, rfl, y, rfl, z, rfl, (((H.drop 0).drop 0).drop 0).perm (.trans (.cons _ (.swap _ _ _)) (.swap _ _ _))⟩
          ·
            have H0 := H
            refine alloc_h H hi2 hz2 ?_
            intro z wz H Mz
            refine ⟨.inr (by simp [promsOk, promOk]; exact ⟨same_blk (H0.blk 2 rfl) (H.blk 2 rfl), same_blk (H0.blk 1 rfl) (H.blk 1 rfl)⟩), ?_⟩
            refine wp_alt ?_ ?_
            ·
              refine call_r _ (small_c a' b') rfl ?_
              rintro r wr ⟨rfl, Mr⟩
              have H0 := H
              replace H := H.same Mr
              refine ⟨by simp [promOk]; exact same_blk (H0.blk 2 rfl) (H.blk 2 rfl), ?_⟩
              refine wp_alt ?_ ?_
              ·
                refine call_r _ (small_c a'' b'') rfl ?_
                rintro r wr ⟨rfl, Mr⟩
                replace H := H.same Mr
                refine ⟨trivial, ?_⟩
                refine wp_alt ?_ ?_
                ·
                  refine alloc_h H hi2 hz2 ?_
                  intro x wx H Mx
                  refine ⟨.inl rfl, ?_⟩
                  refine alloc_h H hi2 hz2 ?_
                  intro y wy H My
                  refine ⟨.inl rfl, ?_⟩
                  refine stAll_h 4 H rfl (v := rV (1 + a % 8) (1 + b % 16)) rfl rfl rfl rfl (rV_one _ _) ?_
                  intro ws H
                  refine ⟨.inl rfl, ?_⟩
                  refine stAll_h 5 H rfl (v := rV (1 + a' % 8) (1 + b' % 16)) rfl rfl rfl rfl (rV_one _ _) ?_
                  intro ws H
                  refine ⟨.inl rfl, ?_⟩
                  refine stAll_h 3 H rfl (v := rV (1 + a'' % 8) (1 + b'' % 16)) rfl rfl rfl rfl (rV_one _ _) ?_
                  intro ws H
                  refine ⟨.inl rfl, ?_⟩
                  exact ⟨rfl, rfl, rfl, x, rfl, y, rfl, z, rfl, (((H.drop 0).drop 0).drop 0).perm (.trans (.swap _ _ _) (.cons _ (.swap _ _ _)))⟩
                ·
                  refine alloc_h H hi2 hz2 ?_
                  intro y wy H My
                  refine ⟨.inl rfl, ?_⟩
                  refine alloc_h H hi2 hz2 ?_
                  intro x wx H Mx
                  refine ⟨.inl rfl, ?_⟩
                  refine stAll_h 5 H rfl (v := rV (1 + a % 8) (1 + b % 16)) rfl rfl rfl rfl (rV_one _ _) ?_
                  intro ws H
                  refine ⟨.inl rfl, ?_⟩
                  refine stAll_h 4 H rfl (v := rV (1 + a' % 8) (1 + b' % 16)) rfl rfl rfl rfl (rV_one _ _) ?_
                  intro ws H
                  refine ⟨.inl rfl, ?_⟩
                  refine stAll_h 3 H rfl (v := rV (1 + a'' % 8) (1 + b'' % 16)) rfl rfl rfl rfl (rV_one _ _) ?_
                  intro ws H
                  refine ⟨.inl rfl, ?_⟩
                  exact ⟨rfl, rfl, rfl, x, rfl, y, rfl, z, rfl, (((H.drop 0).drop 0).drop 0).perm (.trans (.swap _ _ _) (.trans (.cons _ (.swap _ _ _)) (.swap _ _ _)))⟩
              ·
                refine wp_alt ?_ ?_
                ·
                  have H0 := H
                  refine alloc_h H hi2 hz2 ?_
                  intro x wx H Mx
                  refine ⟨.inr (by simp [promsOk, promOk]; exact same_blk (H0.blk 2 rfl) (H.blk 2 rfl)), ?_⟩
                  refine wp_alt ?_ ?_
                  ·
                    refine call_r _ (small_c a'' b'') rfl ?_
                    rintro r wr ⟨rfl, Mr⟩
                    replace H := H.same Mr
                    refine ⟨trivial, ?_⟩
                    refine alloc_h H hi2 hz2 ?_
                    intro y wy H My
                    refine ⟨.inl rfl, ?_⟩
                    refine stAll_h 4 H rfl (v := rV (1 + a % 8) (1 + b % 16)) rfl rfl rfl rfl (rV_one _ _) ?_
                    intro ws H
                    refine ⟨.inl rfl, ?_⟩
                    refine stAll_h 5 H rfl (v := rV (1 + a' % 8) (1 + b' % 16)) rfl rfl rfl rfl (rV_one _ _) ?_
                    intro ws H
                    refine ⟨.inl rfl, ?_⟩
                    refine stAll_h 3 H rfl (v := rV (1 + a'' % 8) (1 + b'' % 16)) rfl rfl rfl rfl (rV_one _ _) ?_
                    intro ws H
                    refine ⟨.inl rfl, ?_⟩
                    exact ⟨rfl, rfl, rfl, x, rfl, y, rfl, z, rfl, (((H.drop 0).drop 0).drop 0).perm (.trans (.swap _ _ _) (.cons _ (.swap _ _ _)))⟩
                  ·
                    have H0 := H
                    refine alloc_h H hi2 hz2 ?_
                    intro y wy H My
                    refine ⟨.inr (by simp [promsOk, promOk]; exact same_blk (H0.blk 2 rfl) (H.blk 2 rfl)), ?_⟩
                    refine call_r _ (small_c a'' b'') rfl ?_
                    rintro r wr ⟨rfl, Mr⟩
                    replace H := H.same Mr
                    refine ⟨trivial, ?_⟩
                    refine stAll_h 4 H rfl (v := rV (1 + a % 8) (1 + b % 16)) rfl rfl rfl rfl (rV_one _ _) ?_
                    intro ws H
                    refine ⟨.inl rfl, ?_⟩
                    refine stAll_h 5 H rfl (v := rV (1 + a' % 8) (1 + b' % 16)) rfl rfl rfl rfl (rV_one _ _) ?_
                    intro ws H
                    refine ⟨.inl rfl, ?_⟩
                    refine stAll_h 3 H rfl (v := rV (1 + a'' % 8) (1 + b'' % 16)) rfl rfl rfl rfl (rV_one _ _) ?_
                    intro ws H
                    refine ⟨.inl rfl, ?_⟩
                    exact ⟨rfl, rfl, rfl, x, rfl, y, rfl, z, rfl, (((H.drop 0).drop 0).drop 0).perm (.trans (.swap _ _ _) (.cons _ (.swap _ _ _)))⟩
                ·
                  have H0 := H
                  refine alloc_h H hi2 hz2 ?_
                  intro y wy H My
                  refine ⟨.inr (by simp [promsOk, promOk]; exact same_blk (H0.blk 2 rfl) (H.blk 2 rfl)), ?_⟩
                  refine wp_alt ?_ ?_
                  ·
                    refine call_r _ (small_c a'' b'') rfl ?_
                    rintro r wr ⟨rfl, Mr⟩
                    replace H := H.same Mr
                    refine ⟨trivial, ?_⟩
                    refine alloc_h H hi2 hz2 ?_
                    intro x wx H Mx
                    refine ⟨.inl rfl, ?_⟩
                    refine stAll_h 5 H rfl (v := rV (1 + a % 8) (1 + b % 16)) rfl rfl rfl rfl (rV_one _ _) ?_
                    intro ws H
                    refine ⟨.inl rfl, ?_⟩
                    refine stAll_h 4 H rfl (v := rV (1 + a' % 8) (1 + b' % 16)) rfl rfl rfl rfl (rV_one _ _) ?_
                    intro ws H
                    refine ⟨.inl rfl, ?_⟩
                    refine stAll_h 3 H rfl (v := rV (1 + a'' % 8) (1 + b'' % 16)) rfl rfl rfl rfl (rV_one _ _) ?_
                    intro ws H
                    refine ⟨.inl rfl, ?_⟩
                    exact ⟨rfl, rfl, rfl, x, rfl, y, rfl, z, rfl, (((H.drop 0).drop 0).drop 0).perm (.trans (.swap _ _ _) (.trans (.cons _ (.swap _ _ _)) (.swap _ _ _)))⟩
                  ·
                    have H0 := H
                    refine alloc_h H hi2 hz2 ?_
                    intro x wx H Mx
                    refine ⟨.inr (by simp [promsOk, promOk]; exact same_blk (H0.blk 2 rfl) (H.blk 2 rfl)), ?_⟩
                    refine call_r _ (small_c a'' b'') rfl ?_
                    rintro r wr ⟨rfl, Mr⟩
                    replace H := H.same Mr
                    refine ⟨trivial, ?_⟩
                    refine stAll_h 5 H rfl (v := rV (1 + a % 8) (1 + b % 16)) rfl rfl rfl rfl (rV_one _ _) ?_
                    intro ws H
                    refine ⟨.inl rfl, ?_⟩
                    refine stAll_h 4 H rfl (v := rV (1 + a' % 8) (1 + b' % 16)) rfl rfl rfl rfl (rV_one _ _) ?_
                    intro ws H
                    refine ⟨.inl rfl, ?_⟩
                    refine stAll_h 3 H rfl (v := rV (1 + a'' % 8) (1 + b'' % 16)) rfl rfl rfl rfl (rV_one _ _) ?_
                    intro ws H
                    refine ⟨.inl rfl, ?_⟩
                    exact ⟨rfl, rfl, rfl, x, rfl, y, rfl, z, rfl, (((H.drop 0).drop 0).drop 0).perm (.trans (.swap _ _ _) (.trans (.cons _ (.swap _ _ _)) (.swap _ _ _)))⟩
            ·
              refine wp_alt ?_ ?_
              ·
                have H0 := H
                refine alloc_h H hi2 hz2 ?_
                intro x wx H Mx
                refine ⟨.inr (by simp [promsOk, promOk]; exact ⟨same_blk (H0.blk 2 rfl) (H.blk 2 rfl), same_blk (H0.blk 1 rfl) (H.blk 1 rfl)⟩), ?_⟩
                refine wp_alt ?_ ?_
                ·
                  refine call_r _ (small_c a' b') rfl ?_
                  rintro r wr ⟨rfl, Mr⟩
                  have H0 := H
                  replace H := H.same Mr
                  refine ⟨by simp [promOk]; exact same_blk (H0.blk 2 rfl) (H.blk 2 rfl), ?_⟩
                  refine wp_alt ?_ ?_
                  ·
                    refine call_r _ (small_c a'' b'') rfl ?_
                    rintro r wr ⟨rfl, Mr⟩
                    replace H := H.same Mr
                    refine ⟨trivial, ?_⟩
                    refine alloc_h H hi2 hz2 ?_
                    intro y wy H My
                    refine ⟨.inl rfl, ?_⟩
                    refine stAll_h 4 H rfl (v := rV (1 + a % 8) (1 + b % 16)) rfl rfl rfl rfl (rV_one _ _) ?_
                    intro ws H
                    refine ⟨.inl rfl, ?_⟩
                    refine stAll_h 5 H rfl (v := rV (1 + a' % 8) (1 + b' % 16)) rfl rfl rfl rfl (rV_one _ _) ?_
                    intro ws H
                    refine ⟨.inl rfl, ?_⟩
                    refine stAll_h 3 H rfl (v := rV (1 + a'' % 8) (1 + b'' % 16)) rfl rfl rfl rfl (rV_one _ _) ?_
                    intro ws H
                    refine ⟨.inl rfl, ?_⟩
                    exact ⟨rfl, rfl, rfl, x, rfl, y, rfl, z, rfl, (((H.drop 0).drop 0).drop 0).perm (.trans (.swap _ _ _) (.cons _ (.swap _ _ _)))⟩
                  ·
                    have H0 := H
                    refine alloc_h H hi2 hz2 ?_
                    intro y wy H My
                    refine ⟨.inr (by simp [promsOk, promOk]; exact same_blk (H0.blk 2 rfl) (H.blk 2 rfl)), ?_⟩
                    refine call_r _ (small_c a'' b'') rfl ?_
                    rintro r wr ⟨rfl, Mr⟩
                    replace H := H.same Mr
                    refine ⟨trivial, ?_⟩
                    refine stAll_h 4 H rfl (v := rV (1 + a % 8) (1 + b % 16)) rfl rfl rfl rfl (rV_one _ _) ?_
                    intro ws H
                    refine ⟨.inl rfl, ?_⟩
                    refine stAll_h 5 H rfl (v := rV (1 + a' % 8) (1 + b' % 16)) rfl rfl rfl rfl (rV_one _ _) ?_
                    intro ws H
                    refine ⟨.inl rfl, ?_⟩
                    refine stAll_h 3 H rfl (v := rV (1 + a'' % 8) (1 + b'' % 16)) rfl rfl rfl rfl (rV_one _ _) ?_
                    intro ws H
                    refine ⟨.inl rfl, ?_⟩
                    exact ⟨rfl, rfl, rfl, x, rfl, y, rfl, z, rfl, (((H.drop 0).drop 0).drop 0).perm (.trans (.swap _ _ _) (.cons _ (.swap _ _ _)))⟩
                ·
                  have H0 := H
                  refine alloc_h H hi2 hz2 ?_
                  intro y wy H My
                  refine ⟨.inr (by simp [promsOk, promOk]; exact ⟨same_blk (H0.blk 2 rfl) (H.blk 2 rfl), same_blk (H0.blk 1 rfl) (H.blk 1 rfl)⟩), ?_⟩
                  refine call_r _ (small_c a' b') rfl ?_
                  rintro r wr ⟨rfl, Mr⟩
                  have H0 := H
                  replace H := H.same Mr
                  refine ⟨by simp [promOk]; exact same_blk (H0.blk 2 rfl) (H.blk 2 rfl), ?_⟩
                  refine call_r _ (small_c a'' b'') rfl ?_
                  rintro r wr ⟨rfl, Mr⟩
                  replace H := H.same Mr
                  refine ⟨trivial, ?_⟩
                  refine stAll_h 4 H rfl (v := rV (1 + a % 8) (1 + b % 16)) rfl rfl rfl rfl (rV_one _ _) ?_
                  intro ws H
                  refine ⟨.inl rfl, ?_⟩
                  refine stAll_h 5 H rfl (v := rV (1 + a' % 8) (1 + b' % 16)) rfl rfl rfl rfl (rV_one _ _) ?_
                  intro ws H
                  refine ⟨.inl rfl, ?_⟩
                  refine stAll_h 3 H rfl (v := rV (1 + a'' % 8) (1 + b'' % 16)) rfl rfl rfl rfl (rV_one _ _) ?_
                  intro ws H
                  refine ⟨.inl rfl, ?_⟩
                  exact ⟨rfl, rfl, rfl, x, rfl, y, rfl, z, rfl, (((H.drop 0).drop 0).drop 0).perm (.trans (.swap _ _ _) (.cons _ (.swap _ _ _)))⟩
              ·
                have H0 := H
                refine alloc_h H hi2 hz2 ?_
                intro y wy H My
                refine ⟨.inr (by simp [promsOk, promOk]; exact ⟨same_blk (H0.blk 2 rfl) (H.blk 2 rfl), same_blk (H0.blk 1 rfl) (H.blk 1 rfl)⟩), ?_⟩
                refine wp_alt ?_ ?_
                ·
                  refine call_r _ (small_c a' b') rfl ?_
                  rintro r wr ⟨rfl, Mr⟩
                  have H0 := H
                  replace H := H.same Mr
                  refine ⟨by simp [promOk]; exact same_blk (H0.blk 2 rfl) (H.blk 2 rfl), ?_⟩
                  refine wp_alt ?_ ?_
                  ·
                    refine call_r _ (small_c a'' b'') rfl ?_
                    rintro r wr ⟨rfl, Mr⟩
                    replace H := H.same Mr
                    refine ⟨trivial, ?_⟩
                    refine alloc_h H hi2 hz2 ?_
                    intro x wx H Mx
                    refine ⟨.inl rfl, ?_⟩
                    refine stAll_h 5 H rfl (v := rV (1 + a % 8) (1 + b % 16)) rfl rfl rfl rfl (rV_one _ _) ?_
                    intro ws H
                    refine ⟨.inl rfl, ?_⟩
                    refine stAll_h 4 H rfl (v := rV (1 + a' % 8) (1 + b' % 16)) rfl rfl rfl rfl (rV_one _ _) ?_
                    intro ws H
                    refine ⟨.inl rfl, ?_⟩
                    refine stAll_h 3 H rfl (v := rV (1 + a'' % 8) (1 + b'' % 16)) rfl rfl rfl rfl (rV_one _ _) ?_
                    intro ws H
                    refine ⟨.inl rfl, ?_⟩
                    exact ⟨rfl, rfl, rfl, x, rfl, y, rfl, z, rfl, (((H.drop 0).drop 0).drop 0).perm (.trans (.swap _ _ _) (.trans (.cons _ (.swap _ _ _)) (.swap _ _ _)))⟩
                  ·
                    have H0 := H
                    refine alloc_h H hi2 hz2 ?_
                    intro x wx H Mx
                    refine ⟨.inr (by simp [promsOk, promOk]; exact same_blk (H0.blk 2 rfl) (H.blk 2 rfl)), ?_⟩
                    refine call_r _ (small_c a'' b'') rfl ?_
                    rintro r wr ⟨rfl, Mr⟩
                    replace H := H.same Mr
                    refine ⟨trivial, ?_⟩
                    refine stAll_h 5 H rfl (v := rV (1 + a % 8) (1 + b % 16)) rfl rfl rfl rfl (rV_one _ _) ?_
                    intro ws H
                    refine ⟨.inl rfl, ?_⟩
                    refine stAll_h 4 H rfl (v := rV (1 + a' % 8) (1 + b' % 16)) rfl rfl rfl rfl (rV_one _ _) ?_
                    intro ws H
                    refine ⟨.inl rfl, ?_⟩
                    refine stAll_h 3 H rfl (v := rV (1 + a'' % 8) (1 + b'' % 16)) rfl rfl rfl rfl (rV_one _ _) ?_
                    intro ws H
                    refine ⟨.inl rfl, ?_⟩
                    exact ⟨rfl, rfl, rfl, x, rfl, y, rfl, z, rfl, (((H.drop 0).drop 0).drop 0).perm (.trans (.swap _ _ _) (.trans (.cons _ (.swap _ _ _)) (.swap _ _ _)))⟩
                ·
                  have H0 := H
                  refine alloc_h H hi2 hz2 ?_
                  intro x wx H Mx
                  refine ⟨.inr (by simp [promsOk, promOk]; exact ⟨same_blk (H0.blk 2 rfl) (H.blk 2 rfl), same_blk (H0.blk 1 rfl) (H.blk 1 rfl)⟩), ?_⟩
                  refine call_r _ (small_c a' b') rfl ?_
                  rintro r wr ⟨rfl, Mr⟩
                  have H0 := H
                  replace H := H.same Mr
                  refine ⟨by simp [promOk]; exact same_blk (H0.blk 2 rfl) (H.blk 2 rfl), ?_⟩
                  refine call_r _ (small_c a'' b'') rfl ?_
                  rintro r wr ⟨rfl, Mr⟩
                  replace H := H.same Mr
                  refine ⟨trivial, ?_⟩
                  refine stAll_h 5 H rfl (v := rV (1 + a % 8) (1 + b % 16)) rfl rfl rfl rfl (rV_one _ _) ?_
                  intro ws H
                  refine ⟨.inl rfl, ?_⟩
                  refine stAll_h 4 H rfl (v := rV (1 + a' % 8) (1 + b' % 16)) rfl rfl rfl rfl (rV_one _ _) ?_
                  intro ws H
                  refine ⟨.inl rfl, ?_⟩
                  refine stAll_h 3 H rfl (v := rV (1 + a'' % 8) (1 + b'' % 16)) rfl rfl rfl rfl (rV_one _ _) ?_
                  intro ws H
                  refine ⟨.inl rfl, ?_⟩
                  exact ⟨rfl, rfl, rfl, x, rfl, y, rfl, z, rfl, (((H.drop 0).drop 0).drop 0).perm (.trans (.swap _ _ _) (.trans (.cons _ (.swap _ _ _)) (.swap _ _ _)))⟩
    ·
      refine wp_alt ?_ ?_
      ·
        have H0 := H
        refine alloc_h H hi2 hz2 ?_
        intro x wx H Mx
        refine ⟨.inr (by simp [promsOk, promOk]; exact ⟨same_blk (H0.blk 2 rfl) (H.blk 2 rfl), same_blk (H0.blk 1 rfl) (H.blk 1 rfl), same_blk (H0.blk 0 rfl) (H.blk 0 rfl)⟩), ?_⟩
        refine wp_alt ?_ ?_
        ·
          refine call_r _ (small_c a b) rfl ?_
          rintro r wr ⟨rfl, Mr⟩
          have H0 := H
          replace H := H.same Mr
          refine ⟨by simp [promOk]; exact ⟨same_blk (H0.blk 2 rfl) (H.blk 2 rfl), same_blk (H0.blk 1 rfl) (H.blk 1 rfl)⟩, ?_⟩
          refine wp_alt ?_ ?_
          ·
            refine call_r _ (small_c a' b') rfl ?_
            rintro r wr ⟨rfl, Mr⟩
            have H0 := H
            replace H := H.same Mr
            refine ⟨by simp [promOk]; exact same_blk (H0.blk 2 rfl) (H.blk 2 rfl), ?_⟩
            refine wp_alt ?_ ?_
            ·
              refine call_r _ (small_c a'' b'') rfl ?_
              rintro r wr ⟨rfl, Mr⟩
              replace H := H.same Mr
              refine ⟨trivial, ?_⟩
              refine wp_alt ?_ ?_
              ·
                refine alloc_h H hi2 hz2 ?_
                intro y wy H My
                refine ⟨.inl rfl, ?_⟩
                refine alloc_h H hi2 hz2 ?_
                intro z wz H Mz
                refine ⟨.inl rfl, ?_⟩
                refine stAll_h 3 H rfl (v := rV (1 + a % 8) (1 + b % 16)) rfl rfl rfl rfl (rV_one _ _) ?_
                intro ws H
                refine ⟨.inl rfl, ?_⟩
                refine stAll_h 4 H rfl (v := rV (1 + a' % 8) (1 + b' % 16)) rfl rfl rfl rfl (rV_one _ _) ?_
                intro ws H
                refine ⟨.inl rfl, ?_⟩
                refine stAll_h 5 H rfl (v := rV (1 + a'' % 8) (1 + b'' % 16)) rfl rfl rfl rfl (rV_one _ _) ?_
                intro ws H
                refine ⟨.inl rfl, ?_⟩
                exact ⟨rfl, rfl, rfl, x, rfl, y, rfl, z, rfl, (((H.drop 0).drop 0).drop 0).perm (.refl _)⟩
              ·
                refine alloc_h H hi2 hz2 ?_
                intro z wz H Mz
                refine ⟨.inl rfl, ?_⟩
                refine alloc_h H hi2 hz2 ?_
                intro y wy H My
                refine ⟨.inl rfl, ?_⟩
                refine stAll_h 3 H rfl (v := rV (1 + a % 8) (1 + b % 16)) rfl rfl rfl rfl (rV_one _ _) ?_
                intro ws H
                refine ⟨.inl rfl, ?_⟩
                refine stAll_h 5 H rfl (v := rV (1 + a' % 8) (1 + b' % 16)) rfl rfl rfl rfl (rV_one _ _) ?_
                intro ws H
                refine ⟨.inl rfl, ?_⟩
                refine stAll_h 4 H rfl (v := rV (1 + a'' % 8) (1 + b'' % 16)) rfl rfl rfl rfl (rV_one _ _) ?_
                intro ws H
                refine ⟨.inl rfl, ?_⟩
                exact ⟨rfl, rfl, rfl, x, rfl, y, rfl, z, rfl, (((H.drop 0).drop 0).drop 0).perm (.cons _ (.swap _ _ _))⟩
            ·
              refine wp_alt ?_ ?_
              ·
                have H0 := H
                refine alloc_h H hi2 hz2 ?_
                intro y wy H My
                refine ⟨.inr (by simp [promsOk, promOk]; exact same_blk (H0.blk 2 rfl) (H.blk 2 rfl)), ?_⟩
                refine wp_alt ?_ ?_
                ·
                  refine call_r _ (small_c a'' b'') rfl ?_
                  rintro r wr ⟨rfl, Mr⟩
                  replace H := H.same Mr
                  refine ⟨trivial, ?_⟩
                  refine alloc_h H hi2 hz2 ?_
                  intro z wz H Mz
                  refine ⟨.inl rfl, ?_⟩
                  refine stAll_h 3 H rfl (v := rV (1 + a % 8) (1 + b % 16)) rfl rfl rfl rfl (rV_one _ _) ?_
                  intro ws H
                  refine ⟨.inl rfl, ?_⟩
                  refine stAll_h 4 H rfl (v := rV (1 + a' % 8) (1 + b' % 16)) rfl rfl rfl rfl (rV_one _ _) ?_
                  intro ws H
                  refine ⟨.inl rfl, ?_⟩
                  refine stAll_h 5 H rfl (v := rV (1 + a'' % 8) (1 + b'' % 16)) rfl rfl rfl rfl (rV_one _ _) ?_
                  intro ws H
                  refine ⟨.inl rfl, ?_⟩
                  exact ⟨rfl, rfl, rfl, x, rfl, y, rfl, z, rfl, (((H.drop 0).drop 0).drop 0).perm (.refl _)⟩
                ·
                  have H0 := H
                  refine alloc_h H hi2 hz2 ?_
                  intro z wz H Mz
                  refine ⟨.inr (by simp [promsOk, promOk]; exact same_blk (H0.blk 2 rfl) (H.blk 2 rfl)), ?_⟩
                  refine call_r _ (small_c a'' b'') rfl ?_
                  rintro r wr ⟨rfl, Mr⟩
                  replace H := H.same Mr
                  refine ⟨trivial, ?_⟩
                  refine stAll_h 3 H rfl (v := rV (1 + a % 8) (1 + b % 16)) rfl rfl rfl rfl (rV_one _ _) ?_
                  intro ws H
                  refine ⟨.inl rfl, ?_⟩
                  refine stAll_h 4 H rfl (v := rV (1 + a' % 8) (1 + b' % 16)) rfl rfl rfl rfl (rV_one _ _) ?_
                  intro ws H
                  refine ⟨.inl rfl, ?_⟩
                  refine stAll_h 5 H rfl (v := rV (1 + a'' % 8) (1 + b'' % 16)) rfl rfl rfl rfl (rV_one _ _) ?_
                  intro ws H
                  refine ⟨.inl rfl, ?_⟩
                  exact ⟨rfl, rfl, rfl, x, rfl, y, rfl, z, rfl, (((H.drop 0).drop 0).drop 0).perm (.refl _)⟩
              ·
                have H0 := H
                refine alloc_h H hi2 hz2 ?_
                intro z wz H Mz
                refine ⟨.inr (by simp [promsOk, promOk]; exact same_blk (H0.blk 2 rfl) (H.blk 2 rfl)), ?_⟩
                refine wp_alt ?_ ?_
                ·
                  refine call_r _ (small_c a'' b'') rfl ?_
                  rintro r wr ⟨rfl, Mr⟩
                  replace H := H.same Mr
                  refine ⟨trivial, ?_⟩
                  refine alloc_h H hi2 hz2 ?_
                  intro y wy H My
                  refine ⟨.inl rfl, ?_⟩
                  refine stAll_h 3 H rfl (v := rV (1 + a % 8) (1 + b % 16)) rfl rfl rfl rfl (rV_one _ _) ?_
                  intro ws H
                  refine ⟨.inl rfl, ?_⟩
                  refine stAll_h 5 H rfl (v := rV (1 + a' % 8) (1 + b' % 16)) rfl rfl rfl rfl (rV_one _ _) ?_
                  intro ws H
                  refine ⟨.inl rfl, ?_⟩
                  refine stAll_h 4 H rfl (v := rV (1 + a'' % 8) (1 + b'' % 16)) rfl rfl rfl rfl (rV_one _ _) ?_
                  intro ws H
                  refine ⟨.inl rfl, ?_⟩
                  exact ⟨rfl, rfl, rfl, x, rfl, y, rfl, z, rfl, (((H.drop 0).drop 0).drop 0).perm (.cons _ (.swap _ _ _))⟩
                ·
                  have H0 := H
                  refine alloc_h H hi2 hz2 ?_
                  intro y wy H My
                  refine ⟨.inr (by simp [promsOk, promOk]; exact same_blk (H0.blk 2 rfl) (H.blk 2 rfl)), ?_⟩
                  refine call_r _ (small_c a'' b'') rfl ?_
                  rintro r wr ⟨rfl, Mr⟩
                  replace H := H.same Mr
                  refine ⟨trivial, ?_⟩
                  refine stAll_h 3 H rfl (v := rV (1 + a % 8) (1 + b % 16)) rfl rfl rfl rfl (rV_one _ _) ?_
                  intro ws H
                  refine ⟨.inl rfl, ?_⟩
                  refine stAll_h 5 H rfl (v := rV (1 + a' % 8) (1 + b' % 16)) rfl rfl rfl rfl (rV_one _ _) ?_
                  intro ws H
                  refine ⟨.inl rfl, ?_⟩
                  refine stAll_h 4 H rfl (v := rV (1 + a'' % 8) (1 + b'' % 16)) rfl rfl rfl rfl (rV_one _ _) ?_
                  intro ws H
                  refine ⟨.inl rfl, ?_⟩
                  exact ⟨rfl, rfl, rfl, x, rfl, y, rfl, z, rfl, (((H.drop 0).drop 0).drop 0).perm (.cons _ (.swap _ _ _))⟩
          ·
            refine wp_alt ?_ ?_
            ·
              have H0 := H
              refine alloc_h H hi2 hz2 ?_
              intro y wy H My
              refine ⟨.inr (by simp [promsOk, promOk]; exact ⟨same_blk (H0.blk 2 rfl) (H.blk 2 rfl), same_blk (H0.blk 1 rfl) (H.blk 1 rfl)⟩), ?_⟩
              refine wp_alt ?_ ?_
              ·
                refine call_r _ (small_c a' b') rfl ?_
                rintro r wr ⟨rfl, Mr⟩
                have H0 := H
                replace H := H.same Mr
                refine ⟨by simp [promOk]; exact same_blk (H0.blk 2 rfl) (H.blk 2 rfl), ?_⟩
                refine wp_alt ?_ ?_
                ·
                  refine call_r _ (small_c a'' b'') rfl ?_
                  rintro r wr ⟨rfl, Mr⟩
                  replace H := H.same Mr
                  refine ⟨trivial, ?_⟩
                  refine alloc_h H hi2 hz2 ?_
                  intro z wz H Mz
                  refine ⟨.inl rfl, ?_⟩
                  refine stAll_h 3 H rfl (v := rV (1 + a % 8) (1 + b % 16)) rfl rfl rfl rfl (rV_one _ _) ?_
                  intro ws H
                  refine ⟨.inl rfl, ?_⟩
                  refine stAll_h 4 H rfl (v := rV (1 + a' % 8) (1 + b' % 16)) rfl rfl rfl rfl (rV_one _ _) ?_
                  intro ws H
                  refine ⟨.inl rfl, ?_⟩
                  refine stAll_h 5 H rfl (v := rV (1 + a'' % 8) (1 + b'' % 16)) rfl rfl rfl rfl (rV_one _ _) ?_
                  intro ws H
                  refine ⟨.inl rfl, ?_⟩
                  exact ⟨rfl, rfl, rfl, x, rfl, y, rfl, z, rfl, (((H.drop 0).drop 0).drop 0).perm (.refl _)⟩
                ·
                  have H0 := H
                  refine alloc_h H hi2 hz2 ?_
                  intro z wz H Mz
                  refine ⟨.inr (by simp [promsOk, promOk]; exact same_blk (H0.blk 2 rfl) (H.blk 2 rfl)), ?_⟩
                  refine call_r _ (small_c a'' b'') rfl ?_
                  rintro r wr ⟨rfl, Mr⟩
                  replace H := H.same Mr
                  refine ⟨trivial, ?_⟩
                  refine stAll_h 3 H rfl (v := rV (1 + a % 8) (1 + b % 16)) rfl rfl rfl rfl (rV_one _ _) ?_
                  intro ws H
                  refine ⟨.inl rfl, ?_⟩
                  refine stAll_h 4 H rfl (v := rV (1 + a' % 8) (1 + b' % 16)) rfl rfl rfl rfl (rV_one _ _) ?_
                  intro ws H
                  refine ⟨.inl rfl, ?_⟩
                  refine stAll_h 5 H rfl (v := rV (1 + a'' % 8) (1 + b'' % 16)) rfl rfl rfl rfl (rV_one _ _) ?_
                  intro ws H
                  refine ⟨.inl rfl, ?_⟩
                  exact ⟨rfl, rfl, rfl, x, rfl, y, rfl, z, rfl, (((H.drop 0).drop 0).drop 0).perm (.refl _)⟩
              ·
                have H0 := H
                refine alloc_h H hi2 hz2 ?_
                intro z wz H Mz
                refine ⟨.inr (by simp [promsOk, promOk]; exact ⟨same_blk (H0.blk 2 rfl) (H.blk 2 rfl), same_blk (H0.blk 1 rfl) (H.blk 1 rfl)⟩), ?_⟩
                refine call_r _ (small_c a' b') rfl ?_
                rintro r wr ⟨rfl, Mr⟩
                have H0 := H
                replace H := H.same Mr
                refine ⟨by simp [promOk]; exact same_blk (H0.blk 2 rfl) (H.blk 2 rfl), ?_⟩
                refine call_r _ (small_c a'' b'') rfl ?_
                rintro r wr ⟨rfl, Mr⟩
                replace H := H.same Mr
                refine ⟨trivial, ?_⟩
                refine stAll_h 3 H rfl (v := rV (1 + a % 8) (1 + b % 16)) rfl rfl rfl rfl (rV_one _ _) ?_
                intro ws H
                refine ⟨.inl rfl, ?_⟩
                refine stAll_h 4 H rfl (v := rV (1 + a' % 8) (1 + b' % 16)) rfl rfl rfl rfl (rV_one _ _) ?_
                intro ws H
                refine ⟨.inl rfl, ?_⟩
                refine stAll_h 5 H rfl (v := rV (1 + a'' % 8) (1 + b'' % 16)) rfl rfl rfl rfl (rV_one _ _) ?_
                intro ws H
                refine ⟨.inl rfl, ?_⟩
                exact ⟨rfl, rfl, rfl, x, rfl, y, rfl, z, rfl, (((H.drop 0).drop 0).drop 0).perm (.refl _)⟩
            ·
              have H0 := H
              refine alloc_h H hi2 hz2 ?_
              intro z wz H Mz
              refine ⟨.inr (by simp [promsOk, promOk]; exact ⟨same_blk (H0.blk 2 rfl) (H.blk 2 rfl), same_blk (H0.blk 1 rfl) (H.blk 1 rfl)⟩), ?_⟩
              refine wp_alt ?_ ?_
              ·
                refine call_r _ (small_c a' b') rfl ?_
                rintro r wr ⟨rfl, Mr⟩
                have H0 := H
                replace H := H.same Mr
                refine ⟨by simp [promOk]; exact same_blk (H0.blk 2 rfl) (H.blk 2 rfl), ?_⟩
                refine wp_alt ?_ ?_
                ·
                  refine call_r _ (small_c a'' b'') rfl ?_
                  rintro r wr ⟨rfl, Mr⟩
                  replace H := H.same Mr
                  refine ⟨trivial, ?_⟩
                  refine alloc_h H hi2 hz2 ?_
                  intro y wy H My
                  refine ⟨.inl rfl, ?_⟩
                  refine stAll_h 3 H rfl (v := rV (1 + a % 8) (1 + b % 16)) rfl rfl rfl rfl (rV_one _ _) ?_
                  intro ws H
                  refine ⟨.inl rfl, ?_⟩
                  refine stAll_h 5 H rfl (v := rV (1 + a' % 8) (1 + b' % 16)) rfl rfl rfl rfl (rV_one _ _) ?_
                  intro ws H
                  refine ⟨.inl rfl, ?_⟩
                  refine stAll_h 4 H rfl (v := rV (1 + a'' % 8) (1 + b'' % 16)) rfl rfl rfl rfl (rV_one _ _) ?_
                  intro ws H
                  refine ⟨.inl rfl, ?_⟩
                  exact ⟨rfl, rfl, rfl, x, rfl, y, rfl, z, rfl, (((H.drop 0).drop 0).drop 0).perm (.cons _ (.swap _ _ _))⟩
                ·
                  have H0 := H
                  refine alloc_h H hi2 hz2 ?_
                  intro y wy H My
                  refine ⟨.inr (by simp [promsOk, promOk]; exact same_blk (H0.blk 2 rfl) (H.blk 2 rfl)), ?_⟩
                  refine call_r _ (small_c a'' b'') rfl ?_
                  rintro r wr ⟨rfl, Mr⟩
                  replace H := H.same Mr
                  refine ⟨trivial, ?_⟩
                  refine stAll_h 3 H rfl (v := rV (1 + a % 8) (1 + b % 16)) rfl rfl rfl rfl (rV_one _ _) ?_
                  intro ws H
                  refine ⟨.inl rfl, ?_⟩
                  refine stAll_h 5 H rfl (v := rV (1 + a' % 8) (1 + b' % 16)) rfl rfl rfl rfl (rV_one _ _) ?_
                  intro ws H
                  refine ⟨.inl rfl, ?_⟩
                  refine stAll_h 4 H rfl (v := rV (1 + a'' % 8) (1 + b'' % 16)) rfl rfl rfl rfl (rV_one _ _) ?_
                  intro ws H
                  refine ⟨.inl rfl, ?_⟩
                  exact ⟨rfl, rfl, rfl, x, rfl, y, rfl, z, rfl, (((H.drop 0).drop 0).drop 0).perm (.cons _ (.swap _ _ _))⟩
              ·
                have H0 := H
                refine alloc_h H hi2 hz2 ?_
                intro y wy H My
                refine ⟨.inr (by simp [promsOk, promOk]; exact ⟨same_blk (H0.blk 2 rfl) (H.blk 2 rfl), same_blk (H0.blk 1 rfl) (H.blk 1 rfl)⟩), ?_⟩
                refine call_r _ (small_c a' b') rfl ?_
                rintro r wr ⟨rfl, Mr⟩
                have H0 := H
                replace H := H.same Mr
                refine ⟨by simp [promOk]; exact same_blk (H0.blk 2 rfl) (H.blk 2 rfl), ?_⟩
                refine call_r _ (small_c a'' b'') rfl ?_
                rintro r wr ⟨rfl, Mr⟩
                replace H := H.same Mr
                refine ⟨trivial, ?_⟩
                refine stAll_h 3 H rfl (v := rV (1 + a % 8) (1 + b % 16)) rfl rfl rfl rfl (rV_one _ _) ?_
                intro ws H
                refine ⟨.inl rfl, ?_⟩
                refine stAll_h 5 H rfl (v := rV (1 + a' % 8) (1 + b' % 16)) rfl rfl rfl rfl (rV_one _ _) ?_
                intro ws H
                refine ⟨.inl rfl, ?_⟩
                refine stAll_h 4 H rfl (v := rV (1 + a'' % 8) (1 + b'' % 16)) rfl rfl rfl rfl (rV_one _ _) ?_
                intro ws H
                refine ⟨.inl rfl, ?_⟩
                exact ⟨rfl, rfl, rfl, x, rfl, y, rfl, z, rfl, (((H.drop 0).drop 0).drop 0).perm (.cons _ (.swap _ _ _))⟩
        ·
          refine wp_alt ?_ ?_
          ·
            have H0 := H
            refine alloc_h H hi2 hz2 ?_
            intro y wy H My
            refine ⟨.inr (by simp [promsOk, promOk]; exact ⟨same_blk (H0.blk 2 rfl) (H.blk 2 rfl), same_blk (H0.blk 1 rfl) (H.blk 1 rfl), same_blk (H0.blk 0 rfl) (H.blk 0 rfl)⟩), ?_⟩
            refine wp_alt ?_ ?_
            ·
              refine call_r _ (small_c a b) rfl ?_
              rintro r wr ⟨rfl, Mr⟩
              have H0 := H
              replace H := H.same Mr
              refine ⟨by simp [promOk]; exact ⟨same_blk (H0.blk 2 rfl) (H.blk 2 rfl), same_blk (H0.blk 1 rfl) (H.blk 1 rfl)⟩, ?_⟩
              refine wp_alt ?_ ?_
              ·
                refine call_r _ (small_c a' b') rfl ?_
                rintro r wr ⟨rfl, Mr⟩
                have H0 := H
                replace H := H.same Mr
                refine ⟨by simp [promOk]; exact same_blk (H0.blk 2 rfl) (H.blk 2 rfl), ?_⟩
                refine wp_alt ?_ ?_
                ·
                  refine call_r _ (small_c a'' b'') rfl ?_
                  rintro r wr ⟨rfl, Mr⟩
                  replace H := H.same Mr
                  refine ⟨trivial, ?_⟩
                  refine alloc_h H hi2 hz2 ?_
                  intro z wz H Mz
                  refine ⟨.inl rfl, ?_⟩
                  refine stAll_h 3 H rfl (v := rV (1 + a % 8) (1 + b % 16)) rfl rfl rfl rfl (rV_one _ _) ?_
                  intro ws H
                  refine ⟨.inl rfl, ?_⟩
                  refine stAll_h 4 H rfl (v := rV (1 + a' % 8) (1 + b' % 16)) rfl rfl rfl rfl (rV_one _ _) ?_
                  intro ws H
                  refine ⟨.inl rfl, ?_⟩
                  refine stAll_h 5 H rfl (v := rV (1 + a'' % 8) (1 + b'' % 16)) rfl rfl rfl rfl (rV_one _ _) ?_
                  intro ws H
                  refine ⟨.inl rfl, ?_⟩
                  exact ⟨rfl, rfl, rfl, x, rfl, y, rfl, z, rfl, (((H.drop 0).drop 0).drop 0).perm (.refl _)⟩
                ·
                  have H0 := H
                  refine alloc_h H hi2 hz2 ?_
                  intro z wz H Mz
                  refine ⟨.inr (by simp [promsOk, promOk]; exact same_blk (H0.blk 2 rfl) (H.blk 2 rfl)), ?_⟩
                  refine call_r _ (small_c a'' b'') rfl ?_
                  rintro r wr ⟨rfl, Mr⟩
                  replace H := H.same Mr
                  refine ⟨trivial, ?_⟩
                  refine stAll_h 3 H rfl (v := rV (1 + a % 8) (1 + b % 16)) rfl rfl rfl rfl (rV_one _ _) ?_
                  intro ws H
                  refine ⟨.inl rfl, ?_⟩
                  refine stAll_h 4 H rfl (v := rV (1 + a' % 8) (1 + b' % 16)) rfl rfl rfl rfl (rV_one _ _) ?_
                  intro ws H
                  refine ⟨.inl rfl, ?_⟩
                  refine stAll_h 5 H rfl (v := rV (1 + a'' % 8) (1 + b'' % 16)) rfl rfl rfl rfl (rV_one _ _) ?_
                  intro ws H
                  refine ⟨.inl rfl, ?_⟩
                  exact ⟨rfl, rfl, rfl, x, rfl, y, rfl, z, rfl, (((H.drop 0).drop 0).drop 0).perm (.refl _)⟩
              ·
                have H0 := H
                refine alloc_h H hi2 hz2 ?_
                intro z wz H Mz
                refine ⟨.inr (by simp [promsOk, promOk]; exact ⟨same_blk (H0.blk 2 rfl) (H.blk 2 rfl), same_blk (H0.blk 1 rfl) (H.blk 1 rfl)⟩), ?_⟩
                refine call_r _ (small_c a' b') rfl ?_
                rintro r wr ⟨rfl, Mr⟩
                have H0 := H
                replace H := H.same Mr
                refine ⟨by simp [promOk]; exact same_blk (H0.blk 2 rfl) (H.blk 2 rfl), ?_⟩
                refine call_r _ (small_c a'' b'') rfl ?_
                rintro r wr ⟨rfl, Mr⟩
                replace H := H.same Mr
                refine ⟨trivial, ?_⟩
                refine stAll_h 3 H rfl (v := rV (1 + a % 8) (1 + b % 16)) rfl rfl rfl rfl (rV_one _ _) ?_
                intro ws H
                refine ⟨.inl rfl, ?_⟩
                refine stAll_h 4 H rfl (v := rV (1 + a' % 8) (1 + b' % 16)) rfl rfl rfl rfl (rV_one _ _) ?_
                intro ws H
                refine ⟨.inl rfl, ?_⟩
                refine stAll_h 5 H rfl (v := rV (1 + a'' % 8) (1 + b'' % 16)) rfl rfl rfl rfl (rV_one _ _) ?_
                intro ws H
                refine ⟨.inl rfl, ?_⟩
                exact ⟨rfl, rfl, rfl, x, rfl, y, rfl, z, rfl, (((H.drop 0).drop 0).drop 0).perm (.refl _)⟩
            ·
              have H0 := H
              refine alloc_h H hi2 hz2 ?_
              intro z wz H Mz
              refine ⟨.inr (by simp [promsOk, promOk]; exact ⟨same_blk (H0.blk 2 rfl) (H.blk 2 rfl), same_blk (H0.blk 1 rfl) (H.blk 1 rfl), same_blk (H0.blk 0 rfl) (H.blk 0 rfl)⟩), ?_⟩
              refine call_r _ (small_c a b) rfl ?_
              rintro r wr ⟨rfl, Mr⟩
              have H0 := H
              replace H := H.same Mr
              refine ⟨by simp [promOk]; exact ⟨same_blk (H0.blk 2 rfl) (H.blk 2 rfl), same_blk (H0.blk 1 rfl) (H.blk 1 rfl)⟩, ?_⟩
              refine call_r _ (small_c a' b') rfl ?_
              rintro r wr ⟨rfl, Mr⟩
              have H0 := H
              replace H := H.same Mr
              refine ⟨by simp [promOk]; exact same_blk (H0.blk 2 rfl) (H.blk 2 rfl), ?_⟩
              refine call_r _ (small_c a'' b'') rfl ?_
              rintro r wr ⟨rfl, Mr⟩
              replace H := H.same Mr
              refine ⟨trivial, ?_⟩
              refine stAll_h 3 H rfl (v := rV (1 + a % 8) (1 + b % 16)) rfl rfl rfl rfl (rV_one _ _) ?_
              intro ws H
              refine ⟨.inl rfl, ?_⟩
              refine stAll_h 4 H rfl (v := rV (1 + a' % 8) (1 + b' % 16)) rfl rfl rfl rfl (rV_one _ _) ?_
              intro ws H
              refine ⟨.inl rfl, ?_⟩
              refine stAll_h 5 H rfl (v := rV (1 + a'' % 8) (1 + b'' % 16)) rfl rfl rfl rfl (rV_one _ _) ?_
              intro ws H
              refine ⟨.inl rfl, ?_⟩
              exact ⟨rfl, rfl, rfl, x, rfl, y, rfl, z, rfl, (((H.drop 0).drop 0).drop 0).perm (.refl _)⟩
          ·
            have H0 := H
            refine alloc_h H hi2 hz2 ?_
            intro z wz H Mz
            refine ⟨.inr (by simp [promsOk, promOk]; exact ⟨same_blk (H0.blk 2 rfl) (H.blk 2 rfl), same_blk (H0.blk 1 rfl) (H.blk 1 rfl), same_blk (H0.blk 0 rfl) (H.blk 0 rfl)⟩), ?_⟩
            refine wp_alt ?_ ?_
            ·
              refine call_r _ (small_c a b) rfl ?_
              rintro r wr ⟨rfl, Mr⟩
              have H0 := H
              replace H := H.same Mr
              refine ⟨by simp [promOk]; exact ⟨same_blk (H0.blk 2 rfl) (H.blk 2 rfl), same_blk (H0.blk 1 rfl) (H.blk 1 rfl)⟩, ?_⟩
              refine wp_alt ?_ ?_
              ·
                refine call_r _ (small_c a' b') rfl ?_
                rintro r wr ⟨rfl, Mr⟩
                have H0 := H
                replace H := H.same Mr
                refine ⟨by simp [promOk]; exact same_blk (H0.blk 2 rfl) (H.blk 2 rfl), ?_⟩
                refine wp_alt ?_ ?_
                ·
                  refine call_r _ (small_c a'' b'') rfl ?_
                  rintro r wr ⟨rfl, Mr⟩
                  replace H := H.same Mr
                  refine ⟨trivial, ?_⟩
                  refine alloc_h H hi2 hz2 ?_
                  intro y wy H My
                  refine ⟨.inl rfl, ?_⟩
                  refine stAll_h 3 H rfl (v := rV (1 + a % 8) (1 + b % 16)) rfl rfl rfl rfl (rV_one _ _) ?_
                  intro ws H
                  refine ⟨.inl rfl, ?_⟩
                  refine stAll_h 5 H rfl (v := rV (1 + a' % 8) (1 + b' % 16)) rfl rfl rfl rfl (rV_one _ _) ?_
                  intro ws H
                  refine ⟨.inl rfl, ?_⟩
                  refine stAll_h 4 H rfl (v := rV (1 + a'' % 8) (1 + b'' % 16)) rfl rfl rfl rfl (rV_one _ _) ?_
                  intro ws H
                  refine ⟨.inl rfl, ?_⟩
                  exact ⟨rfl, rfl, rfl, x, rfl, y, rfl, z, rfl, (((H.drop 0).drop 0).drop 0).perm (.cons _ (.swap _ _ _))⟩
                ·
                  have H0 := H
                  refine alloc_h H hi2 hz2 ?_
                  intro y wy H My
                  refine ⟨.inr (by simp [promsOk, promOk]; exact same_blk (H0.blk 2 rfl) (H.blk 2 rfl)), ?_⟩
                  refine call_r _ (small_c a'' b'') rfl ?_
                  rintro r wr ⟨rfl, Mr⟩
                  replace H := H.same Mr
                  refine ⟨trivial, ?_⟩
                  refine stAll_h 3 H rfl (v := rV (1 + a % 8) (1 + b % 16)) rfl rfl rfl rfl (rV_one _ _) ?_
                  intro ws H
                  refine ⟨.inl rfl, ?_⟩
                  refine stAll_h 5 H rfl (v := rV (1 + a' % 8) (1 + b' % 16)) rfl rfl rfl rfl (rV_one _ _) ?_
                  intro ws H
                  refine ⟨.inl rfl, ?_⟩
                  refine stAll_h 4 H rfl (v := rV (1 + a'' % 8) (1 + b'' % 16)) rfl rfl rfl rfl (rV_one _ _) ?_
                  intro ws H
                  refine ⟨.inl rfl, ?_⟩
                  exact ⟨rfl, rfl, rfl, x, rfl, y, rfl, z, rfl, (((H.drop 0).drop 0).drop 0).perm (.cons _ (.swap _ _ _))⟩
              ·
                have H0 := H
                refine alloc_h H hi2 hz2 ?_
                intro y wy H My
                refine ⟨.inr (by simp [promsOk, promOk]; exact ⟨same_blk (H0.blk 2 rfl) (H.blk 2 rfl), same_blk (H0.blk 1 rfl) (H.blk 1 rfl)⟩), ?_⟩
                refine call_r _ (small_c a' b') rfl ?_
                rintro r wr ⟨rfl, Mr⟩
                have H0 := H
                replace H := H.same Mr
                refine ⟨by simp [promOk]; exact same_blk (H0.blk 2 rfl) (H.blk 2 rfl), ?_⟩
                refine call_r _ (small_c a'' b'') rfl ?_
                rintro r wr ⟨rfl, Mr⟩
                replace H := H.same Mr
                refine ⟨trivial, ?_⟩
                refine stAll_h 3 H rfl (v := rV (1 + a % 8) (1 + b % 16)) rfl rfl rfl rfl (rV_one _ _) ?_
                intro ws H
                refine ⟨.inl rfl, ?_⟩
                refine stAll_h 5 H rfl (v := rV (1 + a' % 8) (1 + b' % 16)) rfl rfl rfl rfl (rV_one _ _) ?_
                intro ws H
                refine ⟨.inl rfl, ?_⟩
                refine stAll_h 4 H rfl (v := rV (1 + a'' % 8) (1 + b'' % 16)) rfl rfl rfl rfl (rV_one _ _) ?_
                intro ws H
                refine ⟨.inl rfl, ?_⟩
                exact ⟨rfl, rfl, rfl, x, rfl, y, rfl, z, rfl, (((H.drop 0).drop 0).drop 0).perm (.cons _ (.swap _ _ _))⟩
            ·
              have H0 := H
              refine alloc_h H hi2 hz2 ?_
              intro y wy H My
              refine ⟨.inr (by simp [promsOk, promOk]; exact ⟨same_blk (H0.blk 2 rfl) (H.blk 2 rfl), same_blk (H0.blk 1 rfl) (H.blk 1 rfl), same_blk (H0.blk 0 rfl) (H.blk 0 rfl)⟩), ?_⟩
              refine call_r _ (small_c a b) rfl ?_
              rintro r wr ⟨rfl, Mr⟩
              have H0 := H
              replace H := H.same Mr
              refine ⟨by simp [promOk]; exact ⟨same_blk (H0.blk 2 rfl) (H.blk 2 rfl), same_blk (H0.blk 1 rfl) (H.blk 1 rfl)⟩, ?_⟩
              refine call_r _ (small_c a' b') rfl ?_
              rintro r wr ⟨rfl, Mr⟩
              have H0 := H
              replace H := H.same Mr
              refine ⟨by simp [promOk]; exact same_blk (H0.blk 2 rfl) (H.blk 2 rfl), ?_⟩
              refine call_r _ (small_c a'' b'') rfl ?_
              rintro r wr ⟨rfl, Mr⟩
              replace H := H.same Mr
              refine ⟨trivial, ?_⟩
              refine stAll_h 3 H rfl (v := rV (1 + a % 8) (1 + b % 16)) rfl rfl rfl rfl (rV_one _ _) ?_
              intro ws H
              refine ⟨.inl rfl, ?_⟩
              refine stAll_h 5 H rfl (v := rV (1 + a' % 8) (1 + b' % 16)) rfl rfl rfl rfl (rV_one _ _) ?_
              intro ws H
              refine ⟨.inl rfl, ?_⟩
              refine stAll_h 4 H rfl (v := rV (1 + a'' % 8) (1 + b'' % 16)) rfl rfl rfl rfl (rV_one _ _) ?_
              intro ws H
              refine ⟨.inl rfl, ?_⟩
              exact ⟨rfl, rfl, rfl, x, rfl, y, rfl, z, rfl, (((H.drop 0).drop 0).drop 0).perm (.cons _ (.swap _ _ _))⟩
      ·
        refine wp_alt ?_ ?_
        ·
          have H0 := H
          refine alloc_h H hi2 hz2 ?_
          intro y wy H My
          refine ⟨.inr (by simp [promsOk, promOk]; exact ⟨same_blk (H0.blk 2 rfl) (H.blk 2 rfl), same_blk (H0.blk 1 rfl) (H.blk 1 rfl), same_blk (H0.blk 0 rfl) (H.blk 0 rfl)⟩), ?_⟩
          refine wp_alt ?_ ?_
          ·
            refine call_r _ (small_c a b) rfl ?_
            rintro r wr ⟨rfl, Mr⟩
            have H0 := H
            replace H := H.same Mr
            refine ⟨by simp [promOk]; exact ⟨same_blk (H0.blk 2 rfl) (H.blk 2 rfl), same_blk (H0.blk 1 rfl) (H.blk 1 rfl)⟩, ?_⟩
            refine wp_alt ?_ ?_
            ·
              refine call_r _ (small_c a' b') rfl ?_
              rintro r wr ⟨rfl, Mr⟩
              have H0 := H
              replace H := H.same Mr
              refine ⟨by simp [promOk]; exact same_blk (H0.blk 2 rfl) (H.blk 2 rfl), ?_⟩
              refine wp_alt ?_ ?_
              ·
                refine call_r _ (small_c a'' b'') rfl ?_
                rintro r wr ⟨rfl, Mr⟩
                replace H := H.same Mr
                refine ⟨trivial, ?_⟩
                refine wp_alt ?_ ?_
                ·
                  refine alloc_h H hi2 hz2 ?_
                  intro x wx H Mx
                  refine ⟨.inl rfl, ?_⟩
                  refine alloc_h H hi2 hz2 ?_
                  intro z wz H Mz
                  refine ⟨.inl rfl, ?_⟩
                  refine stAll_h 4 H rfl (v := rV (1 + a % 8) (1 + b % 16)) rfl rfl rfl rfl (rV_one _ _) ?_
                  intro ws H
                  refine ⟨.inl rfl, ?_⟩
                  refine stAll_h 3 H rfl (v := rV (1 + a' % 8) (1 + b' % 16)) rfl rfl rfl rfl (rV_one _ _) ?_
                  intro ws H
                  refine ⟨.inl rfl, ?_⟩
                  refine stAll_h 5 H rfl (v := rV (1 + a'' % 8) (1 + b'' % 16)) rfl rfl rfl rfl (rV_one _ _) ?_
                  intro ws H
                  refine ⟨.inl rfl, ?_⟩
                  exact ⟨rfl, rfl, rfl, x, rfl, y, rfl, z, rfl, (((H.drop 0).drop 0).drop 0).perm (.swap _ _ _)⟩
                ·
                  refine alloc_h H hi2 hz2 ?_
                  intro z wz H Mz
                  refine ⟨.inl rfl, ?_⟩
                  refine alloc_h H hi2 hz2 ?_
                  intro x wx H Mx
                  refine ⟨.inl rfl, ?_⟩
                  refine stAll_h 5 H rfl (v := rV (1 + a % 8) (1 + b % 16)) rfl rfl rfl rfl (rV_one _ _) ?_
                  intro ws H
                  refine ⟨.inl rfl, ?_⟩
                  refine stAll_h 3 H rfl (v := rV (1 + a' % 8) (1 + b' % 16)) rfl rfl rfl rfl (rV_one _ _) ?_
                  intro ws H
                  refine ⟨.inl rfl, ?_⟩
                  refine stAll_h 4 H rfl (v := rV (1 + a'' % 8) (1 + b'' % 16)) rfl rfl rfl rfl (rV_one _ _) ?_
                  intro ws H
                  refine ⟨.inl rfl, ?_⟩
                  exact ⟨rfl, rfl, rfl, x, rfl, y, rfl, z, rfl, (((H.drop 0).drop 0).drop 0).perm (.trans (.cons _ (.swap _ _ _)) (.swap _ _ _))⟩
              ·
                refine wp_alt ?_ ?_
                ·
                  have H0 := H
                  refine alloc_h H hi2 hz2 ?_
                  intro x wx H Mx
                  refine ⟨.inr (by simp [promsOk, promOk]; exact same_blk (H0.blk 2 rfl) (H.blk 2 rfl)), ?_⟩
                  refine wp_alt ?_ ?_
                  ·
                    refine call_r _ (small_c a'' b'') rfl ?_
                    rintro r wr ⟨rfl, Mr⟩
                    replace H := H.same Mr
                    refine ⟨trivial, ?_⟩
                    refine alloc_h H hi2 hz2 ?_
                    intro z wz H Mz
                    refine ⟨.inl rfl, ?_⟩
                    refine stAll_h 4 H rfl (v := rV (1 + a % 8) (1 + b % 16)) rfl rfl rfl rfl (rV_one _ _) ?_
                    intro ws H
                    refine ⟨.inl rfl, ?_⟩
                    refine stAll_h 3 H rfl (v := rV (1 + a' % 8) (1 + b' % 16)) rfl rfl rfl rfl (rV_one _ _) ?_
                    intro ws H
                    refine ⟨.inl rfl, ?_⟩
                    refine stAll_h 5 H rfl (v := rV (1 + a'' % 8) (1 + b'' % 16)) rfl rfl rfl rfl (rV_one _ _) ?_
                    intro ws H
                    refine ⟨.inl rfl, ?_⟩
                    exact ⟨rfl, rfl, rfl, x, rfl, y, rfl, z, rfl, (((H.drop 0).drop 0).drop 0).perm (.swap _ _ _)⟩
                  ·
                    have H0 := H
                    refine alloc_h H hi2 hz2 ?_
                    intro z wz H Mz
                    refine ⟨.inr (by simp [promsOk, promOk]; exact same_blk (H0.blk 2 rfl) (H.blk 2 rfl)), ?_⟩
                    refine call_r _ (small_c a'' b'') rfl ?_
                    rintro r wr ⟨rfl, Mr⟩
                    replace H := H.same Mr
                    refine ⟨trivial, ?_⟩
                    refine stAll_h 4 H rfl (v := rV (1 + a % 8) (1 + b % 16)) rfl rfl rfl rfl (rV_one _ _) ?_
                    intro ws H
                    refine ⟨.inl rfl, ?_⟩
                    refine stAll_h 3 H rfl (v := rV (1 + a' % 8) (1 + b' % 16)) rfl rfl rfl rfl (rV_one _ _) ?_
                    intro ws H
                    refine ⟨.inl rfl, ?_⟩
                    refine stAll_h 5 H rfl (v := rV (1 + a'' % 8) (1 + b'' % 16)) rfl rfl rfl rfl (rV_one _ _) ?_
                    intro ws H
                    refine ⟨.inl rfl, ?_⟩
                    exact ⟨rfl, rfl, rfl, x, rfl, y, rfl, z, rfl, (((H.drop 0).drop 0).drop 0).perm (.swap _ _ _)⟩
                ·
                  have H0 := H
                  refine alloc_h H hi2 hz2 ?_
                  intro z wz H Mz
                  refine ⟨.inr (by simp [promsOk, promOk]; exact same_blk (H0.blk 2 rfl) (H.blk 2 rfl)), ?_⟩
                  refine wp_alt ?_ ?_
                  ·
                    refine call_r _ (small_c a'' b'') rfl ?_
                    rintro r wr ⟨rfl, Mr⟩
                    replace H := H.same Mr
                    refine ⟨trivial, ?_⟩
                    refine alloc_h H hi2 hz2 ?_
                    intro x wx H Mx
                    refine ⟨.inl rfl, ?_⟩
                    refine stAll_h 5 H rfl (v := rV (1 + a % 8) (1 + b % 16)) rfl rfl rfl rfl (rV_one _ _) ?_
                    intro ws H
                    refine ⟨.inl rfl, ?_⟩
                    refine stAll_h 3 H rfl (v := rV (1 + a' % 8) (1 + b' % 16)) rfl rfl rfl rfl (rV_one _ _) ?_
                    intro ws H
                    refine ⟨.inl rfl, ?_⟩
                    refine stAll_h 4 H rfl (v := rV (1 + a'' % 8) (1 + b'' % 16)) rfl rfl rfl rfl (rV_one _ _) ?_
                    intro ws H
                    refine ⟨.inl rfl, ?_⟩
                    exact ⟨rfl, rfl, rfl, x, rfl, y, rfl, z, rfl, (((H.drop 0).drop 0).drop 0).perm (.trans (.cons _ (.swap _ _ _)) (.swap _ _ _))⟩
                  ·
                    have H0 := H
                    refine alloc_h H hi2 hz2 ?_
                    intro x wx H Mx
                    refine ⟨.inr (by simp [promsOk, promOk]; exact same_blk (H0.blk 2 rfl) (H.blk 2 rfl)), ?_⟩
                    refine call_r _ (small_c a'' b'') rfl ?_
                    rintro r wr ⟨rfl, Mr⟩
                    replace H := H.same Mr
                    refine ⟨trivial, ?_⟩
                    refine stAll_h 5 H rfl (v := rV (1 + a % 8) (1 + b % 16)) rfl rfl rfl rfl (rV_one _ _) ?_
                    intro ws H
                    refine ⟨.inl rfl, ?_⟩
                    refine stAll_h 3 H rfl (v := rV (1 + a' % 8) (1 + b' % 16)) rfl rfl rfl rfl (rV_one _ _) ?_
                    intro ws H
                    refine ⟨.inl rfl, ?_⟩
                    refine stAll_h 4 H rfl (v := rV (1 + a'' % 8) (1 + b'' % 16)) rfl rfl rfl rfl (rV_one _ _) ?_
                    intro ws H
                    refine ⟨.inl rfl, ?_⟩
                    exact ⟨rfl, rfl, rfl, x, rfl, y, rfl, z, rfl, (((H.drop 0).drop 0).drop 0).perm (.trans (.cons _ (.swap _ _ _)) (.swap _ _ _))⟩
            ·
              refine wp_alt ?_ ?_
              ·
                have H0 := H
                refine alloc_h H hi2 hz2 ?_
                intro x wx H Mx
                refine ⟨.inr (by simp [promsOk, promOk]; exact ⟨same_blk (H0.blk 2 rfl) (H.blk 2 rfl), same_blk (H0.blk 1 rfl) (H.blk 1 rfl)⟩), ?_⟩
                refine wp_alt ?_ ?_
                ·
                  refine call_r _ (small_c a' b') rfl ?_
                  rintro r wr ⟨rfl, Mr⟩
                  have H0 := H
                  replace H := H.same Mr
                  refine ⟨by simp [promOk]; exact same_blk (H0.blk 2 rfl) (H.blk 2 rfl), ?_⟩
                  refine wp_alt ?_ ?_
                  ·
                    refine call_r _ (small_c a'' b'') rfl ?_
                    rintro r wr ⟨rfl, Mr⟩
                    replace H := H.same Mr
                    refine ⟨trivial, ?_⟩
                    refine alloc_h H hi2 hz2 ?_
                    intro z wz H Mz
                    refine ⟨.inl rfl, ?_⟩
                    refine stAll_h 4 H rfl (v := rV (1 + a % 8) (1 + b % 16)) rfl rfl rfl rfl (rV_one _ _) ?_
                    intro ws H
                    refine ⟨.inl rfl, ?_⟩
                    refine stAll_h 3 H rfl (v := rV (1 + a' % 8) (1 + b' % 16)) rfl rfl rfl rfl (rV_one _ _) ?_
                    intro ws H
                    refine ⟨.inl rfl, ?_⟩
                    refine stAll_h 5 H rfl (v := rV (1 + a'' % 8) (1 + b'' % 16)) rfl rfl rfl rfl (rV_one _ _) ?_
                    intro ws H
                    refine ⟨.inl rfl, ?_⟩
                    exact ⟨rfl, rfl, rfl, x, rfl, y, rfl, z, rfl, (((H.drop 0).drop 0).drop 0).perm (.swap _ _ _)⟩
                  ·
                    have H0 := H
                    refine alloc_h H hi2 hz2 ?_
                    intro z wz H Mz
                    refine ⟨.inr (by simp [promsOk, promOk]; exact same_blk (H0.blk 2 rfl) (H.blk 2 rfl)), ?_⟩
                    refine call_r _ (small_c a'' b'') rfl ?_
                    rintro r wr ⟨rfl, Mr⟩
                    replace H := H.same Mr
                    refine ⟨trivial, ?_⟩
                    refine stAll_h 4 H rfl (v := rV (1 + a % 8) (1 + b % 16)) rfl rfl rfl rfl (rV_one _ _) ?_
                    intro ws H
                    refine ⟨.inl rfl, ?_⟩
                    refine stAll_h 3 H rfl (v := rV (1 + a' % 8) (1 + b' % 16)) rfl rfl rfl rfl (rV_one _ _) ?_
                    intro ws H
                    refine ⟨.inl rfl, ?_⟩
                    refine stAll_h 5 H rfl (v := rV (1 + a'' % 8) (1 + b'' % 16)) rfl rfl rfl rfl (rV_one _ _) ?_
                    intro ws H
                    refine ⟨.inl rfl, ?_⟩
                    exact ⟨rfl, rfl, rfl, x, rfl, y, rfl, z, rfl, (((H.drop 0).drop 0).drop 0).perm (.swap _ _ _)⟩
                ·
                  have H0 := H
                  refine alloc_h H hi2 hz2 ?_
                  intro z wz H Mz
                  refine ⟨.inr (by simp [promsOk, promOk]; exact ⟨same_blk (H0.blk 2 rfl) (H.blk 2 rfl), same_blk (H0.blk 1 rfl) (H.blk 1 rfl)⟩), ?_⟩
                  refine call_r _ (small_c a' b') rfl ?_
                  rintro r wr ⟨rfl, Mr⟩
                  have H0 := H
                  replace H := H.same Mr
                  refine ⟨by simp [promOk]; exact same_blk (H0.blk 2 rfl) (H.blk 2 rfl), ?_⟩
                  refine call_r _ (small_c a'' b'') rfl ?_
                  rintro r wr ⟨rfl, Mr⟩
                  replace H := H.same Mr
                  refine ⟨trivial, ?_⟩
                  refine stAll_h 4 H rfl (v := rV (1 + a % 8) (1 + b % 16)) rfl rfl rfl rfl (rV_one _ _) ?_
                  intro ws H
                  refine ⟨.inl rfl, ?_⟩
                  refine stAll_h 3 H rfl (v := rV (1 + a' % 8) (1 + b' % 16)) rfl rfl rfl rfl (rV_one _ _) ?_
                  intro ws H
                  refine ⟨.inl rfl, ?_⟩
                  refine stAll_h 5 H rfl (v := rV (1 + a'' % 8) (1 + b'' % 16)) rfl rfl rfl rfl (rV_one _ _) ?_
                  intro ws H
                  refine ⟨.inl rfl, ?_⟩
                  exact ⟨rfl, rfl, rfl, x, rfl, y, rfl, z, rfl, (((H.drop 0).drop 0).drop 0).perm (.swap _ _ _)⟩
              ·
                have H0 := H
                refine alloc_h H hi2 hz2 ?_
                intro z wz H Mz
                refine ⟨.inr (by simp [promsOk, promOk]; exact ⟨same_blk (H0.blk 2 rfl) (H.blk 2 rfl), same_blk (H0.blk 1 rfl) (H.blk 1 rfl)⟩), ?_⟩
                refine wp_alt ?_ ?_
                ·
                  refine call_r _ (small_c a' b') rfl ?_
                  rintro r wr ⟨rfl, Mr⟩
                  have H0 := H
                  replace H := H.same Mr
                  refine ⟨by simp [promOk]; exact same_blk (H0.blk 2 rfl) (H.blk 2 rfl), ?_⟩
                  refine wp_alt ?_ ?_
                  ·
                    refine call_r _ (small_c a'' b'') rfl ?_
                    rintro r wr ⟨rfl, Mr⟩
                    replace H := H.same Mr
                    refine ⟨trivial, ?_⟩
                    refine alloc_h H hi2 hz2 ?_
                    intro x wx H Mx
                    refine ⟨.inl rfl, ?_⟩
                    refine stAll_h 5 H rfl (v := rV (1 + a % 8) (1 + b % 16)) rfl rfl rfl rfl (rV_one _ _) ?_
                    intro ws H
                    refine ⟨.inl rfl, ?_⟩
                    refine stAll_h 3 H rfl (v := rV (1 + a' % 8) (1 + b' % 16)) rfl rfl rfl rfl (rV_one _ _) ?_
                    intro ws H
                    refine ⟨.inl rfl, ?_⟩
                    refine stAll_h 4 H rfl (v := rV (1 + a'' % 8) (1 + b'' % 16)) rfl rfl rfl rfl (rV_one _ _) ?_
                    intro ws H
                    refine ⟨.inl rfl, ?_⟩
                    exact ⟨rfl, rfl, rfl, x, rfl, y, rfl, z, rfl, (((H.drop 0).drop 0).drop 0).perm (.trans (.cons _ (.swap _ _ _)) (.swap _ _ _))⟩
                  ·
                    have H0 := H
                    refine alloc_h H hi2 hz2 ?_
                    intro x wx H Mx
                    refine ⟨.inr (by simp [promsOk, promOk]; exact same_blk (H0.blk 2 rfl) (H.blk 2 rfl)), ?_⟩
                    refine call_r _ (small_c a'' b'') rfl ?_
                    rintro r wr ⟨rfl, Mr⟩
                    replace H := H.same Mr
                    refine ⟨trivial, ?_⟩
                    refine stAll_h 5 H rfl (v := rV (1 + a % 8) (1 + b % 16)) rfl rfl rfl rfl (rV_one _ _) ?_
                    intro ws H
                    refine ⟨.inl rfl, ?_⟩
                    refine stAll_h 3 H rfl (v := rV (1 + a' % 8) (1 + b' % 16)) rfl rfl rfl rfl (rV_one _ _) ?_
                    intro ws H
                    refine ⟨.inl rfl, ?_⟩
                    refine stAll_h 4 H rfl (v := rV (1 + a'' % 8) (1 + b'' % 16)) rfl rfl rfl rfl (rV_one _ _) ?_
                    intro ws H
                    refine ⟨.inl rfl, ?_⟩
                    exact ⟨rfl, rfl, rfl, x, rfl, y, rfl, z, rfl, (((H.drop 0).drop 0).drop 0).perm (.trans (.cons _ (.swap _ _ _)) (.swap _ _ _))⟩
                ·
                  have H0 := H
                  refine alloc_h H hi2 hz2 ?_
                  intro x wx H Mx
                  refine ⟨.inr (by simp [promsOk, promOk]; exact ⟨same_blk (H0.blk 2 rfl) (H.blk 2 rfl), same_blk (H0.blk 1 rfl) (H.blk 1 rfl)⟩), ?_⟩
                  refine call_r _ (small_c a' b') rfl ?_
                  rintro r wr ⟨rfl, Mr⟩
                  have H0 := H
                  replace H := H.same Mr
                  refine ⟨by simp [promOk]; exact same_blk (H0.blk 2 rfl) (H.blk 2 rfl), ?_⟩
                  refine call_r _ (small_c a'' b'') rfl ?_
                  rintro r wr ⟨rfl, Mr⟩
                  replace H := H.same Mr
                  refine ⟨trivial, ?_⟩
                  refine stAll_h 5 H rfl (v := rV (1 + a % 8) (1 + b % 16)) rfl rfl rfl rfl (rV_one _ _) ?_
                  intro ws H
                  refine ⟨.inl rfl, ?_⟩
                  refine stAll_h 3 H rfl (v := rV (1 + a' % 8) (1 + b' % 16)) rfl rfl rfl rfl (rV_one _ _) ?_
                  intro ws H
                  refine ⟨.inl rfl, ?_⟩
                  refine stAll_h 4 H rfl (v := rV (1 + a'' % 8) (1 + b'' % 16)) rfl rfl rfl rfl (rV_one _ _) ?_
                  intro ws H
                  refine ⟨.inl rfl, ?_⟩
                  exact ⟨rfl, rfl, rfl, x, rfl, y, rfl, z, rfl, (((H.drop 0).drop 0).drop 0).perm (.trans (.cons _ (.swap _ _ _)) (.swap _ _ _))⟩
          ·
            refine wp_alt ?_ ?_
            ·
              have H0 := H
              refine alloc_h H hi2 hz2 ?_
              intro x wx H Mx
              refine ⟨.inr (by simp [promsOk, promOk]; exact ⟨same_blk (H0.blk 2 rfl) (H.blk 2 rfl), same_blk (H0.blk 1 rfl) (H.blk 1 rfl), same_blk (H0.blk 0 rfl) (H.blk 0 rfl)⟩), ?_⟩
              refine wp_alt ?_ ?_
              ·
                refine call_r _ (small_c a b) rfl ?_
                rintro r wr ⟨rfl, Mr⟩
                have H0 := H
                replace H := H.same Mr
                refine ⟨by simp [promOk]; exact ⟨same_blk (H0.blk 2 rfl) (H.blk 2 rfl), same_blk (H0.blk 1 rfl) (H.blk 1 rfl)⟩, ?_⟩
                refine wp_alt ?_ ?_
                ·
                  refine call_r _ (small_c a' b') rfl ?_
                  rintro r wr ⟨rfl, Mr⟩
                  have H0 := H
                  replace H := H.same Mr
                  refine ⟨by simp [promOk]; exact same_blk (H0.blk 2 rfl) (H.blk 2 rfl), ?_⟩
                  refine wp_alt ?_ ?_
                  ·
                    refine call_r _ (small_c a'' b'') rfl ?_
                    rintro r wr ⟨rfl, Mr⟩
                    replace H := H.same Mr
                    refine ⟨trivial, ?_⟩
                    refine alloc_h H hi2 hz2 ?_
                    intro z wz H Mz
                    refine ⟨.inl rfl, ?_⟩
                    refine stAll_h 4 H rfl (v := rV (1 + a % 8) (1 + b % 16)) rfl rfl rfl rfl (rV_one _ _) ?_
                    intro ws H
                    refine ⟨.inl rfl, ?_⟩
                    refine stAll_h 3 H rfl (v := rV (1 + a' % 8) (1 + b' % 16)) rfl rfl rfl rfl (rV_one _ _) ?_
                    intro ws H
                    refine ⟨.inl rfl, ?_⟩
                    refine stAll_h 5 H rfl (v := rV (1 + a'' % 8) (1 + b'' % 16)) rfl rfl rfl rfl (rV_one _ _) ?_
                    intro ws H
                    refine ⟨.inl rfl, ?_⟩
                    exact ⟨rfl, rfl, rfl, x, rfl, y, rfl, z, rfl, (((H.drop 0).drop 0).drop 0).perm (.swap _ _ _)⟩
                  ·
                    have H0 := H
                    refine alloc_h H hi2 hz2 ?_
                    intro z wz H Mz
                    refine ⟨.inr (by simp [promsOk, promOk]; exact same_blk (H0.blk 2 rfl) (H.blk 2 rfl)), ?_⟩
                    refine call_r _ (small_c a'' b'') rfl ?_
                    rintro r wr ⟨rfl, Mr⟩
                    replace H := H.same Mr
                    refine ⟨trivial, ?_⟩
                    refine stAll_h 4 H rfl (v := rV (1 + a % 8) (1 + b % 16)) rfl rfl rfl rfl (rV_one _ _) ?_
                    intro ws H
                    refine ⟨.inl rfl, ?_⟩
                    refine stAll_h 3 H rfl (v := rV (1 + a' % 8) (1 + b' % 16)) rfl rfl rfl rfl (rV_one _ _) ?_
                    intro ws H
                    refine ⟨.inl rfl, ?_⟩
                    refine stAll_h 5 H rfl (v := rV (1 + a'' % 8) (1 + b'' % 16)) rfl rfl rfl rfl (rV_one _ _) ?_
                    intro ws H
                    refine ⟨.inl rfl, ?_⟩
                    exact ⟨rfl, rfl, rfl, x, rfl, y, rfl, z, rfl, (((H.drop 0).drop 0).drop 0).perm (.swap _ _ _)⟩
                ·
                  have H0 := H
                  refine alloc_h H hi2 hz2 ?_
                  intro z wz H Mz
                  refine ⟨.inr (by simp [promsOk, promOk]; exact ⟨same_blk (H0.blk 2 rfl) (H.blk 2 rfl), same_blk (H0.blk 1 rfl) (H.blk 1 rfl)⟩), ?_⟩
                  refine call_r _ (small_c a' b') rfl ?_
                  rintro r wr ⟨rfl, Mr⟩
                  have H0 := H
                  replace H := H.same Mr
                  refine ⟨by simp [promOk]; exact same_blk (H0.blk 2 rfl) (H.blk 2 rfl), ?_⟩
                  refine call_r _ (small_c a'' b'') rfl ?_
                  rintro r wr ⟨rfl, Mr⟩
                  replace H := H.same Mr
                  refine ⟨trivial, ?_⟩
                  refine stAll_h 4 H rfl (v := rV (1 + a % 8) (1 + b % 16)) rfl rfl rfl rfl (rV_one _ _) ?_
                  intro ws H
                  refine ⟨.inl rfl, ?_⟩
                  refine stAll_h 3 H rfl (v := rV (1 + a' % 8) (1 + b' % 16)) rfl rfl rfl rfl (rV_one _ _) ?_
                  intro ws H
                  refine ⟨.inl rfl, ?_⟩
                  refine stAll_h 5 H rfl (v := rV (1 + a'' % 8) (1 + b'' % 16)) rfl rfl rfl rfl (rV_one _ _) ?_
                  intro ws H
                  refine ⟨.inl rfl, ?_⟩
                  exact ⟨rfl, rfl, rfl, x, rfl, y, rfl, z, rfl, (((H.drop 0).drop 0).drop 0).perm (.swap _ _ _)⟩
              ·
                have H0 := H
                refine alloc_h H hi2 hz2 ?_
                intro z wz H Mz
                refine ⟨.inr (by simp [promsOk, promOk]; exact ⟨same_blk (H0.blk 2 rfl) (H.blk 2 rfl), same_blk (H0.blk 1 rfl) (H.blk 1 rfl), same_blk (H0.blk 0 rfl) (H.blk 0 rfl)⟩), ?_⟩
                refine call_r _ (small_c a b) rfl ?_
                rintro r wr ⟨rfl, Mr⟩
                have H0 := H
                replace H := H.same Mr
                refine ⟨by simp [promOk]; exact ⟨same_blk (H0.blk 2 rfl) (H.blk 2 rfl), same_blk (H0.blk 1 rfl) (H.blk 1 rfl)⟩, ?_⟩
                refine call_r _ (small_c a' b') rfl ?_
                rintro r wr ⟨rfl, Mr⟩
                have H0 := H
                replace H := H.same Mr
                refine ⟨by simp [promOk]; exact same_blk (H0.blk 2 rfl) (H.blk 2 rfl), ?_⟩
                refine call_r _ (small_c a'' b'') rfl ?_
                rintro r wr ⟨rfl, Mr⟩
                replace H := H.same Mr
                refine ⟨trivial, ?_⟩
                refine stAll_h 4 H rfl (v := rV (1 + a % 8) (1 + b % 16)) rfl rfl rfl rfl (rV_one _ _) ?_
                intro ws H
                refine ⟨.inl rfl, ?_⟩
                refine stAll_h 3 H rfl (v := rV (1 + a' % 8) (1 + b' % 16)) rfl rfl rfl rfl (rV_one _ _) ?_
                intro ws H
                refine ⟨.inl rfl, ?_⟩
                refine stAll_h 5 H rfl (v := rV (1 + a'' % 8) (1 + b'' % 16)) rfl rfl rfl rfl (rV_one _ _) ?_
                intro ws H
                refine ⟨.inl rfl, ?_⟩
                exact ⟨rfl, rfl, rfl, x, rfl, y, rfl, z, rfl, (((H.drop 0).drop 0).drop 0).perm (.swap _ _ _)⟩
            ·
              have H0 := H
              refine alloc_h H hi2 hz2 ?_
              intro z wz H Mz
              refine ⟨.inr (by simp [promsOk, promOk]; exact ⟨same_blk (H0.blk 2 rfl) (H.blk 2 rfl), same_blk (H0.blk 1 rfl) (H.blk 1 rfl), same_blk (H0.blk 0 rfl) (H.blk 0 rfl)⟩), ?_⟩
              refine wp_alt ?_ ?_
              ·
                refine call_r _ (small_c a b) rfl ?_
                rintro r wr ⟨rfl, Mr⟩
                have H0 := H
                replace H := H.same Mr
                refine ⟨by simp [promOk]; exact ⟨same_blk (H0.blk 2 rfl) (H.blk 2 rfl), same_blk (H0.blk 1 rfl) (H.blk 1 rfl)⟩, ?_⟩
                refine wp_alt ?_ ?_
                ·
                  refine call_r _ (small_c a' b') rfl ?_
                  rintro r wr ⟨rfl, Mr⟩
                  have H0 := H
                  replace H := H.same Mr
                  refine ⟨by simp [promOk]; exact same_blk (H0.blk 2 rfl) (H.blk 2 rfl), ?_⟩
                  refine wp_alt ?_ ?_
                  ·
                    refine call_r _ (small_c a'' b'') rfl ?_
                    rintro r wr ⟨rfl, Mr⟩
                    replace H := H.same Mr
                    refine ⟨trivial, ?_⟩
                    refine alloc_h H hi2 hz2 ?_
                    intro x wx H Mx
                    refine ⟨.inl rfl, ?_⟩
                    refine stAll_h 5 H rfl (v := rV (1 + a % 8) (1 + b % 16)) rfl rfl rfl rfl (rV_one _ _) ?_
                    intro ws H
                    refine ⟨.inl rfl, ?_⟩
                    refine stAll_h 3 H rfl (v := rV (1 + a' % 8) (1 + b' % 16)) rfl rfl rfl rfl (rV_one _ _) ?_
                    intro ws H
                    refine ⟨.inl rfl, ?_⟩
                    refine stAll_h 4 H rfl (v := rV (1 + a'' % 8) (1 + b'' % 16)) rfl rfl rfl rfl (rV_one _ _) ?_
                    intro ws H
                    refine ⟨.inl rfl, ?_⟩
                    exact ⟨rfl, rfl, rfl, x, rfl, y, rfl, z, rfl, (((H.drop 0).drop 0).drop 0).perm (.trans (.cons _ (.swap _ _ _)) (.swap _ _ _))⟩
                  ·
                    have H0 := H
                    refine alloc_h H hi2 hz2 ?_
                    intro x wx H Mx
                    refine ⟨.inr (by simp [promsOk, promOk]; exact same_blk (H0.blk 2 rfl) (H.blk 2 rfl)), ?_⟩
                    refine call_r _ (small_c a'' b'') rfl ?_
                    rintro r wr ⟨rfl, Mr⟩
                    replace H := H.same Mr
                    refine ⟨trivial, ?_⟩
                    refine stAll_h 5 H rfl (v := rV (1 + a % 8) (1 + b % 16)) rfl rfl rfl rfl (rV_one _ _) ?_
                    intro ws H
                    refine ⟨.inl rfl, ?_⟩
                    refine stAll_h 3 H rfl (v := rV (1 + a' % 8) (1 + b' % 16)) rfl rfl rfl rfl (rV_one _ _) ?_
                    intro ws H
                    refine ⟨.inl rfl, ?_⟩
                    refine stAll_h 4 H rfl (v := rV (1 + a'' % 8) (1 + b'' % 16)) rfl rfl rfl rfl (rV_one _ _) ?_
                    intro ws H
                    refine ⟨.inl rfl, ?_⟩
                    exact ⟨rfl, rfl, rfl, x, rfl, y, rfl, z, rfl, (((H.drop 0).drop 0).drop 0).perm (.trans (.cons _ (.swap _ _ _)) (.swap _ _ _))⟩
                ·
                  have H0 := H
                  refine alloc_h H hi2 hz2 ?_
                  intro x wx H Mx
                  refine ⟨.inr (by simp [promsOk, promOk]; exact ⟨same_blk (H0.blk 2 rfl) (H.blk 2 rfl), same_blk (H0.blk 1 rfl) (H.blk 1 rfl)⟩), ?_⟩
                  refine call_r _ (small_c a' b') rfl ?_
                  rintro r wr ⟨rfl, Mr⟩
                  have H0 := H
                  replace H := H.same Mr
                  refine ⟨by simp [promOk]; exact same_blk (H0.blk 2 rfl) (H.blk 2 rfl), ?_⟩
                  refine call_r _ (small_c a'' b'') rfl ?_
                  rintro r wr ⟨rfl, Mr⟩
                  replace H := H.same Mr
                  refine ⟨trivial, ?_⟩
                  refine stAll_h 5 H rfl (v := rV (1 + a % 8) (1 + b % 16)) rfl rfl rfl rfl (rV_one _ _) ?_
                  intro ws H
                  refine ⟨.inl rfl, ?_⟩
                  refine stAll_h 3 H rfl (v := rV (1 + a' % 8) (1 + b' % 16)) rfl rfl rfl rfl (rV_one _ _) ?_
                  intro ws H
                  refine ⟨.inl rfl, ?_⟩
                  refine stAll_h 4 H rfl (v := rV (1 + a'' % 8) (1 + b'' % 16)) rfl rfl rfl rfl (rV_one _ _) ?_
                  intro ws H
                  refine ⟨.inl rfl, ?_⟩
                  exact ⟨rfl, rfl, rfl, x, rfl, y, rfl, z, rfl, (((H.drop 0).drop 0).drop 0).perm (.trans (.cons _ (.swap _ _ _)) (.swap _ _ _))⟩
              ·
                have H0 := H
                refine alloc_h H hi2 hz2 ?_
                intro x wx H Mx
                refine ⟨.inr (by simp [promsOk, promOk]; exact ⟨same_blk (H0.blk 2 rfl) (H.blk 2 rfl), same_blk (H0.blk 1 rfl) (H.blk 1 rfl), same_blk (H0.blk 0 rfl) (H.blk 0 rfl)⟩), ?_⟩
                refine call_r _ (small_c a b) rfl ?_
                rintro r wr ⟨rfl, Mr⟩
                have H0 := H
                replace H := H.same Mr
                refine ⟨by simp [promOk]; exact ⟨same_blk (H0.blk 2 rfl) (H.blk 2 rfl), same_blk (H0.blk 1 rfl) (H.blk 1 rfl)⟩, ?_⟩
                refine call_r _ (small_c a' b') rfl ?_
                rintro r wr ⟨rfl, Mr⟩
                have H0 := H
                replace H := H.same Mr
                refine ⟨by simp [promOk]; exact same_blk (H0.blk 2 rfl) (H.blk 2 rfl), ?_⟩
                refine call_r _ (small_c a'' b'') rfl ?_
                rintro r wr ⟨rfl, Mr⟩
                replace H := H.same Mr
                refine ⟨trivial, ?_⟩
                refine stAll_h 5 H rfl (v := rV (1 + a % 8) (1 + b % 16)) rfl rfl rfl rfl (rV_one _ _) ?_
                intro ws H
                refine ⟨.inl rfl, ?_⟩
                refine stAll_h 3 H rfl (v := rV (1 + a' % 8) (1 + b' % 16)) rfl rfl rfl rfl (rV_one _ _) ?_
                intro ws H
                refine ⟨.inl rfl, ?_⟩
                refine stAll_h 4 H rfl (v := rV (1 + a'' % 8) (1 + b'' % 16)) rfl rfl rfl rfl (rV_one _ _) ?_
                intro ws H
                refine ⟨.inl rfl, ?_⟩
                exact ⟨rfl, rfl, rfl, x, rfl, y, rfl, z, rfl, (((H.drop 0).drop 0).drop 0).perm (.trans (.cons _ (.swap _ _ _)) (.swap _ _ _))⟩
        ·
          have H0 := H
          refine alloc_h H hi2 hz2 ?_
          intro z wz H Mz
          refine ⟨.inr (by simp [promsOk, promOk]; exact ⟨same_blk (H0.blk 2 rfl) (H.blk 2 rfl), same_blk (H0.blk 1 rfl) (H.blk 1 rfl), same_blk (H0.blk 0 rfl) (H.blk 0 rfl)⟩), ?_⟩
          refine wp_alt ?_ ?_
          ·
            refine call_r _ (small_c a b) rfl ?_
            rintro r wr ⟨rfl, Mr⟩
            have H0 := H
            replace H := H.same Mr
            refine ⟨by simp [promOk]; exact ⟨same_blk (H0.blk 2 rfl) (H.blk 2 rfl), same_blk (H0.blk 1 rfl) (H.blk 1 rfl)⟩, ?_⟩
            refine wp_alt ?_ ?_
            ·
              refine call_r _ (small_c a' b') rfl ?_
              rintro r wr ⟨rfl, Mr⟩
              have H0 := H
              replace H := H.same Mr
              refine ⟨by simp [promOk]; exact same_blk (H0.blk 2 rfl) (H.blk 2 rfl), ?_⟩
              refine wp_alt ?_ ?_
              ·
                refine call_r _ (small_c a'' b'') rfl ?_
                rintro r wr ⟨rfl, Mr⟩
                replace H := H.same Mr
                refine ⟨trivial, ?_⟩
                refine wp_alt ?_ ?_
                ·
                  refine alloc_h H hi2 hz2 ?_
                  intro x wx H Mx
                  refine ⟨.inl rfl, ?_⟩
                  refine alloc_h H hi2 hz2 ?_
                  intro y wy H My
                  refine ⟨.inl rfl, ?_⟩
                  refine stAll_h 4 H rfl (v := rV (1 + a % 8) (1 + b % 16)) rfl rfl rfl rfl (rV_one _ _) ?_
                  intro ws H
                  refine ⟨.inl rfl, ?_⟩
                  refine stAll_h 5 H rfl (v := rV (1 + a' % 8) (1 + b' % 16)) rfl rfl rfl rfl (rV_one _ _) ?_
                  intro ws H
                  refine ⟨.inl rfl, ?_⟩
                  refine stAll_h 3 H rfl (v := rV (1 + a'' % 8) (1 + b'' % 16)) rfl rfl rfl rfl (rV_one _ _) ?_
                  intro ws H
                  refine ⟨.inl rfl, ?_⟩
                  exact ⟨rfl, rfl, rfl, x, rfl, y, rfl, z, rfl, (((H.drop 0).drop 0).drop 0).perm (.trans (.swap _ _ _) (.cons _ (.swap _ _ _)))⟩
                ·
                  refine alloc_h H hi2 hz2 ?_
                  intro y wy H My
                  refine ⟨.inl rfl, ?_⟩
                  refine alloc_h H hi2 hz2 ?_
                  intro x wx H Mx
                  refine ⟨.inl rfl, ?_⟩
                  refine stAll_h 5 H rfl (v := rV (1 + a % 8) (1 + b % 16)) rfl rfl rfl rfl (rV_one _ _) ?_
                  intro ws H
                  refine ⟨.inl rfl, ?_⟩
                  refine stAll_h 4 H rfl (v := rV (1 + a' % 8) (1 + b' % 16)) rfl rfl rfl rfl (rV_one _ _) ?_
                  intro ws H
                  refine ⟨.inl rfl, ?_⟩
                  refine stAll_h 3 H rfl (v := rV (1 + a'' % 8) (1 + b'' % 16)) rfl rfl rfl rfl (rV_one _ _) ?_
                  intro ws H
                  refine ⟨.inl rfl, ?_⟩
                  exact ⟨rfl, rfl, rfl, x, rfl, y, rfl, z, rfl, (((H.drop 0).drop 0).drop 0).perm (.trans (.swap _ _ _) (.trans (.cons _ (.swap _ _ _)) (.swap _ _ _)))⟩
              ·
                refine wp_alt ?_ ?_
                ·
                  have H0 := H
                  refine alloc_h H hi2 hz2 ?_
                  intro x wx H Mx
                  refine ⟨.inr (by simp [promsOk, promOk]; exact same_blk (H0.blk 2 rfl) (H.blk 2 rfl)), ?_⟩
                  refine wp_alt ?_ ?_
                  ·
                    refine call_r _ (small_c a'' b'') rfl ?_
                    rintro r wr ⟨rfl, Mr⟩
                    replace H := H.same Mr
                    refine ⟨trivial, ?_⟩
                    refine alloc_h H hi2 hz2 ?_
                    intro y wy H My
                    refine ⟨.inl rfl, ?_⟩
                    refine stAll_h 4 H rfl (v := rV (1 + a % 8) (1 + b % 16)) rfl rfl rfl rfl (rV_one _ _) ?_
                    intro ws H
                    refine ⟨.inl rfl, ?_⟩
                    refine stAll_h 5 H rfl (v := rV (1 + a' % 8) (1 + b' % 16)) rfl rfl rfl rfl (rV_one _ _) ?_
                    intro ws H
                    refine ⟨.inl rfl, ?_⟩
                    refine stAll_h 3 H rfl (v := rV (1 + a'' % 8) (1 + b'' % 16)) rfl rfl rfl rfl (rV_one _ _) ?_
                    intro ws H
                    refine ⟨.inl rfl, ?_⟩
                    exact ⟨rfl, rfl, rfl, x, rfl, y, rfl, z, rfl, (((H.drop 0).drop 0).drop 0).perm (.trans (.swap _ _ _) (.cons _ (.swap _ _ _)))⟩
                  ·
                    have H0 := H
                    refine alloc_h H hi2 hz2 ?_
                    intro y wy H My
                    refine ⟨.inr (by simp [promsOk, promOk]; exact same_blk (H0.blk 2 rfl) (H.blk 2 rfl)), ?_⟩
                    refine call_r _ (small_c a'' b'') rfl ?_
                    rintro r wr ⟨rfl, Mr⟩
                    replace H := H.same Mr
                    refine ⟨trivial, ?_⟩
                    refine stAll_h 4 H rfl (v := rV (1 + a % 8) (1 + b % 16)) rfl rfl rfl rfl (rV_one _ _) ?_
                    intro ws H
                    refine ⟨.inl rfl, ?_⟩
                    refine stAll_h 5 H rfl (v := rV (1 + a' % 8) (1 + b' % 16)) rfl rfl rfl rfl (rV_one _ _) ?_
                    intro ws H
                    refine ⟨.inl rfl, ?_⟩
                    refine stAll_h 3 H rfl (v := rV (1 + a'' % 8) (1 + b'' % 16)) rfl rfl rfl rfl (rV_one _ _) ?_
                    intro ws H
                    refine ⟨.inl rfl, ?_⟩
                    exact ⟨rfl, rfl, rfl, x, rfl, y, rfl, z, rfl, (((H.drop 0).drop 0).drop 0).perm (.trans (.swap _ _ _) (.cons _ (.swap _ _ _)))⟩
                ·
                  have H0 := H
                  refine alloc_h H hi2 hz2 ?_
                  intro y wy H My
                  refine ⟨.inr (by simp [promsOk, promOk]; exact same_blk (H0.blk 2 rfl) (H.blk 2 rfl)), ?_⟩
                  refine wp_alt ?_ ?_
                  ·
                    refine call_r _ (small_c a'' b'') rfl ?_
                    rintro r wr ⟨rfl, Mr⟩
                    replace H := H.same Mr
                    refine ⟨trivial, ?_⟩
                    refine alloc_h H hi2 hz2 ?_
                    intro x wx H Mx
                    refine ⟨.inl rfl, ?_⟩
                    refine stAll_h 5 H rfl (v := rV (1 + a % 8) (1 + b % 16)) rfl rfl rfl rfl (rV_one _ _) ?_
                    intro ws H
                    refine ⟨.inl rfl, ?_⟩
                    refine stAll_h 4 H rfl (v := rV (1 + a' % 8) (1 + b' % 16)) rfl rfl rfl rfl (rV_one _ _) ?_
                    intro ws H
                    refine ⟨.inl rfl, ?_⟩
                    refine stAll_h 3 H rfl (v := rV (1 + a'' % 8) (1 + b'' % 16)) rfl rfl rfl rfl (rV_one _ _) ?_
                    intro ws H
                    refine ⟨.inl rfl, ?_⟩
                    exact ⟨rfl, rfl, rfl, x, rfl, y, rfl, z, rfl, (((H.drop 0).drop 0).drop 0).perm (.trans (.swap _ _ _) (.trans (.cons _ (.swap _ _ _)) (.swap _ _ _)))⟩
                  ·
                    have H0 := H
                    refine alloc_h H hi2 hz2 ?_
                    intro x wx H Mx
                    refine ⟨.inr (by simp [promsOk, promOk]; exact same_blk (H0.blk 2 rfl) (H.blk 2 rfl)), ?_⟩
                    refine call_r _ (small_c a'' b'') rfl ?_
                    rintro r wr ⟨rfl, Mr⟩
                    replace H := H.same Mr
                    refine ⟨trivial, ?_⟩
                    refine stAll_h 5 H rfl (v := rV (1 + a % 8) (1 + b % 16)) rfl rfl rfl rfl (rV_one _ _) ?_
                    intro ws H
                    refine ⟨.inl rfl, ?_⟩
                    refine stAll_h 4 H rfl (v := rV (1 + a' % 8) (1 + b' % 16)) rfl rfl rfl rfl (rV_one _ _) ?_
                    intro ws H
                    refine ⟨.inl rfl, ?_⟩
                    refine stAll_h 3 H rfl (v := rV (1 + a'' % 8) (1 + b'' % 16)) rfl rfl rfl rfl (rV_one _ _) ?_
                    intro ws H
                    refine ⟨.inl rfl, ?_⟩
                    exact ⟨rfl, rfl, rfl, x, rfl, y, rfl, z, rfl, (((H.drop 0).drop 0).drop 0).perm (.trans (.swap _ _ _) (.trans (.cons _ (.swap _ _ _)) (.swap _ _ _)))⟩
            ·
              refine wp_alt ?_ ?_
              ·
                have H0 := H
                refine alloc_h H hi2 hz2 ?_
                intro x wx H Mx
                refine ⟨.inr (by simp [promsOk, promOk]; exact ⟨same_blk (H0.blk 2 rfl) (H.blk 2 rfl), same_blk (H0.blk 1 rfl) (H.blk 1 rfl)⟩), ?_⟩
                refine wp_alt ?_ ?_
                ·
                  refine call_r _ (small_c a' b') rfl ?_
                  rintro r wr ⟨rfl, Mr⟩
                  have H0 := H
                  replace H := H.same Mr
                  refine ⟨by simp [promOk]; exact same_blk (H0.blk 2 rfl) (H.blk 2 rfl), ?_⟩
                  refine wp_alt ?_ ?_
                  ·
                    refine call_r _ (small_c a'' b'') rfl ?_
                    rintro r wr ⟨rfl, Mr⟩
                    replace H := H.same Mr
                    refine ⟨trivial, ?_⟩
                    refine alloc_h H hi2 hz2 ?_
                    intro y wy H My
                    refine ⟨.inl rfl, ?_⟩
                    refine stAll_h 4 H rfl (v := rV (1 + a % 8) (1 + b % 16)) rfl rfl rfl rfl (rV_one _ _) ?_
                    intro ws H
                    refine ⟨.inl rfl, ?_⟩
                    refine stAll_h 5 H rfl (v := rV (1 + a' % 8) (1 + b' % 16)) rfl rfl rfl rfl (rV_one _ _) ?_
                    intro ws H
                    refine ⟨.inl rfl, ?_⟩
                    refine stAll_h 3 H rfl (v := rV (1 + a'' % 8) (1 + b'' % 16)) rfl rfl rfl rfl (rV_one _ _) ?_
                    intro ws H
                    refine ⟨.inl rfl, ?_⟩
                    exact ⟨rfl, rfl, rfl, x, rfl, y, rfl, z, rfl, (((H.drop 0).drop 0).drop 0).perm (.trans (.swap _ _ _) (.cons _ (.swap _ _ _)))⟩
                  ·
                    have H0 := H
                    refine alloc_h H hi2 hz2 ?_
                    intro y wy H My
                    refine ⟨.inr (by simp [promsOk, promOk]; exact same_blk (H0.blk 2 rfl) (H.blk 2 rfl)), ?_⟩
                    refine call_r _ (small_c a'' b'') rfl ?_
                    rintro r wr ⟨rfl, Mr⟩
                    replace H := H.same Mr
                    refine ⟨trivial, ?_⟩
                    refine stAll_h 4 H rfl (v := rV (1 + a % 8) (1 + b % 16)) rfl rfl rfl rfl (rV_one _ _) ?_
                    intro ws H
                    refine ⟨.inl rfl, ?_⟩
                    refine stAll_h 5 H rfl (v := rV (1 + a' % 8) (1 + b' % 16)) rfl rfl rfl rfl (rV_one _ _) ?_
                    intro ws H
                    refine ⟨.inl rfl, ?_⟩
                    refine stAll_h 3 H rfl (v := rV (1 + a'' % 8) (1 + b'' % 16)) rfl rfl rfl rfl (rV_one _ _) ?_
                    intro ws H
                    refine ⟨.inl rfl, ?_⟩
                    exact ⟨rfl, rfl, rfl, x, rfl, y, rfl, z, rfl, (((H.drop 0).drop 0).drop 0).perm (.trans (.swap _ _ _) (.cons _ (.swap _ _ _)))⟩
                ·
                  have H0 := H
                  refine alloc_h H hi2 hz2 ?_
                  intro y wy H My
                  refine ⟨.inr (by simp [promsOk, promOk]; exact ⟨same_blk (H0.blk 2 rfl) (H.blk 2 rfl), same_blk (H0.blk 1 rfl) (H.blk 1 rfl)⟩), ?_⟩
                  refine call_r _ (small_c a' b') rfl ?_
                  rintro r wr ⟨rfl, Mr⟩
                  have H0 := H
                  replace H := H.same Mr
                  refine ⟨by simp [promOk]; exact same_blk (H0.blk 2 rfl) (H.blk 2 rfl), ?_⟩
                  refine call_r _ (small_c a'' b'') rfl ?_
                  rintro r wr ⟨rfl, Mr⟩
                  replace H := H.same Mr
                  refine ⟨trivial, ?_⟩
                  refine stAll_h 4 H rfl (v := rV (1 + a % 8) (1 + b % 16)) rfl rfl rfl rfl (rV_one _ _) ?_
                  intro ws H
                  refine ⟨.inl rfl, ?_⟩
                  refine stAll_h 5 H rfl (v := rV (1 + a' % 8) (1 + b' % 16)) rfl rfl rfl rfl (rV_one _ _) ?_
                  intro ws H
                  refine ⟨.inl rfl, ?_⟩
                  refine stAll_h 3 H rfl (v := rV (1 + a'' % 8) (1 + b'' % 16)) rfl rfl rfl rfl (rV_one _ _) ?_
                  intro ws H
                  refine ⟨.inl rfl, ?_⟩
                  exact ⟨rfl, rfl, rfl, x, rfl, y, rfl, z, rfl, (((H.drop 0).drop 0).drop 0).perm (.trans (.swap _ _ _) (.cons _ (.swap _ _ _)))⟩
              ·
                have H0 := H
                refine alloc_h H hi2 hz2 ?_
                intro y wy H My
                refine ⟨.inr (by simp [promsOk, promOk]; exact ⟨same_blk (H0.blk 2 rfl) (H.blk 2 rfl), same_blk (H0.blk 1 rfl) (H.blk 1 rfl)⟩), ?_⟩
                refine wp_alt ?_ ?_
                ·
                  refine call_r _ (small_c a' b') rfl ?_
                  rintro r wr ⟨rfl, Mr⟩
                  have H0 := H
                  replace H := H.same Mr
                  refine ⟨by simp [promOk]; exact same_blk (H0.blk 2 rfl) (H.blk 2 rfl), ?_⟩
                  refine wp_alt ?_ ?_
                  ·
                    refine call_r _ (small_c a'' b'') rfl ?_
                    rintro r wr ⟨rfl, Mr⟩
                    replace H := H.same Mr
                    refine ⟨trivial, ?_⟩
                    refine alloc_h H hi2 hz2 ?_
                    intro x wx H Mx
                    refine ⟨.inl rfl, ?_⟩
                    refine stAll_h 5 H rfl (v := rV (1 + a % 8) (1 + b % 16)) rfl rfl rfl rfl (rV_one _ _) ?_
                    intro ws H
                    refine ⟨.inl rfl, ?_⟩
                    refine stAll_h 4 H rfl (v := rV (1 + a' % 8) (1 + b' % 16)) rfl rfl rfl rfl (rV_one _ _) ?_
                    intro ws H
                    refine ⟨.inl rfl, ?_⟩
                    refine stAll_h 3 H rfl (v := rV (1 + a'' % 8) (1 + b'' % 16)) rfl rfl rfl rfl (rV_one _ _) ?_
                    intro ws H
                    refine ⟨.inl rfl, ?_⟩
                    exact ⟨rfl, rfl, rfl, x, rfl, y, rfl, z, rfl, (((H.drop 0).drop 0).drop 0).perm (.trans (.swap _ _ _) (.trans (.cons _ (.swap _ _ _)) (.swap _ _ _)))⟩
                  ·
                    have H0 := H
                    refine alloc_h H hi2 hz2 ?_
                    intro x wx H Mx
                    refine ⟨.inr (by simp [promsOk, promOk]; exact same_blk (H0.blk 2 rfl) (H.blk 2 rfl)), ?_⟩
                    refine call_r _ (small_c a'' b'') rfl ?_
                    rintro r wr ⟨rfl, Mr⟩
                    replace H := H.same Mr
                    refine ⟨trivial, ?_⟩
                    refine stAll_h 5 H rfl (v := rV (1 + a % 8) (1 + b % 16)) rfl rfl rfl rfl (rV_one _ _) ?_
                    intro ws H
                    refine ⟨.inl rfl, ?_⟩
                    refine stAll_h 4 H rfl (v := rV (1 + a' % 8) (1 + b' % 16)) rfl rfl rfl rfl (rV_one _ _) ?_
                    intro ws H
                    refine ⟨.inl rfl, ?_⟩
                    refine stAll_h 3 H rfl (v := rV (1 + a'' % 8) (1 + b'' % 16)) rfl rfl rfl rfl (rV_one _ _) ?_
                    intro ws H
                    refine ⟨.inl rfl, ?_⟩
                    exact ⟨rfl, rfl, rfl, x, rfl, y, rfl, z, rfl, (((H.drop 0).drop 0).drop 0).perm (.trans (.swap _ _ _) (.trans (.cons _ (.swap _ _ _)) (.swap _ _ _)))⟩
                ·
                  have H0 := H
                  refine alloc_h H hi2 hz2 ?_
                  intro x wx H Mx
                  refine ⟨.inr (by simp [promsOk, promOk]; exact ⟨same_blk (H0.blk 2 rfl) (H.blk 2 rfl), same_blk (H0.blk 1 rfl) (H.blk 1 rfl)⟩), ?_⟩
                  refine call_r _ (small_c a' b') rfl ?_
                  rintro r wr ⟨rfl, Mr⟩
                  have H0 := H
                  replace H := H.same Mr
                  refine ⟨by simp [promOk]; exact same_blk (H0.blk 2 rfl) (H.blk 2 rfl), ?_⟩
                  refine call_r _ (small_c a'' b'') rfl ?_
                  rintro r wr ⟨rfl, Mr⟩
                  replace H := H.same Mr
                  refine ⟨trivial, ?_⟩
                  refine stAll_h 5 H rfl (v := rV (1 + a % 8) (1 + b % 16)) rfl rfl rfl rfl (rV_one _ _) ?_
                  intro ws H
                  refine ⟨.inl rfl, ?_⟩
                  refine stAll_h 4 H rfl (v := rV (1 + a' % 8) (1 + b' % 16)) rfl rfl rfl rfl (rV_one _ _) ?_
                  intro ws H
                  refine ⟨.inl rfl, ?_⟩
                  refine stAll_h 3 H rfl (v := rV (1 + a'' % 8) (1 + b'' % 16)) rfl rfl rfl rfl (rV_one _ _) ?_
                  intro ws H
                  refine ⟨.inl rfl, ?_⟩
                  exact ⟨rfl, rfl, rfl, x, rfl, y, rfl, z, rfl, (((H.drop 0).drop 0).drop 0).perm (.trans (.swap _ _ _) (.trans (.cons _ (.swap _ _ _)) (.swap _ _ _)))⟩
          ·
            refine wp_alt ?_ ?_
            ·
              have H0 := H
              refine alloc_h H hi2 hz2 ?_
              intro x wx H Mx
              refine ⟨.inr (by simp [promsOk, promOk]; exact ⟨same_blk (H0.blk 2 rfl) (H.blk 2 rfl), same_blk (H0.blk 1 rfl) (H.blk 1 rfl), same_blk (H0.blk 0 rfl) (H.blk 0 rfl)⟩), ?_⟩
              refine wp_alt ?_ ?_
              ·
                refine call_r _ (small_c a b) rfl ?_
                rintro r wr ⟨rfl, Mr⟩
                have H0 := H
                replace H := H.same Mr
                refine ⟨by simp [promOk]; exact ⟨same_blk (H0.blk 2 rfl) (H.blk 2 rfl), same_blk (H0.blk 1 rfl) (H.blk 1 rfl)⟩, ?_⟩
                refine wp_alt ?_ ?_
                ·
                  refine call_r _ (small_c a' b') rfl ?_
                  rintro r wr ⟨rfl, Mr⟩
                  have H0 := H
                  replace H := H.same Mr
                  refine ⟨by simp [promOk]; exact same_blk (H0.blk 2 rfl) (H.blk 2 rfl), ?_⟩
                  refine wp_alt ?_ ?_
                  ·
                    refine call_r _ (small_c a'' b'') rfl ?_
                    rintro r wr ⟨rfl, Mr⟩
                    replace H := H.same Mr
                    refine ⟨trivial, ?_⟩
                    refine alloc_h H hi2 hz2 ?_
                    intro y wy H My
                    refine ⟨.inl rfl, ?_⟩
                    refine stAll_h 4 H rfl (v := rV (1 + a % 8) (1 + b % 16)) rfl rfl rfl rfl (rV_one _ _) ?_
                    intro ws H
                    refine ⟨.inl rfl, ?_⟩
                    refine stAll_h 5 H rfl (v := rV (1 + a' % 8) (1 + b' % 16)) rfl rfl rfl rfl (rV_one _ _) ?_
                    intro ws H
                    refine ⟨.inl rfl, ?_⟩
                    refine stAll_h 3 H rfl (v := rV (1 + a'' % 8) (1 + b'' % 16)) rfl rfl rfl rfl (rV_one _ _) ?_
                    intro ws H
                    refine ⟨.inl rfl, ?_⟩
                    exact ⟨rfl, rfl, rfl, x, rfl, y, rfl, z, rfl, (((H.drop 0).drop 0).drop 0).perm (.trans (.swap _ _ _) (.cons _ (.swap _ _ _)))⟩
                  ·
                    have H0 := H
                    refine alloc_h H hi2 hz2 ?_
                    intro y wy H My
                    refine ⟨.inr (by simp [promsOk, promOk]; exact same_blk (H0.blk 2 rfl) (H.blk 2 rfl)), ?_⟩
                    refine call_r _ (small_c a'' b'') rfl ?_
                    rintro r wr ⟨rfl, Mr⟩
                    replace H := H.same Mr
                    refine ⟨trivial, ?_⟩
                    refine stAll_h 4 H rfl (v := rV (1 + a % 8) (1 + b % 16)) rfl rfl rfl rfl (rV_one _ _) ?_
                    intro ws H
                    refine ⟨.inl rfl, ?_⟩
                    refine stAll_h 5 H rfl (v := rV (1 + a' % 8) (1 + b' % 16)) rfl rfl rfl rfl (rV_one _ _) ?_
                    intro ws H
                    refine ⟨.inl rfl, ?_⟩
                    refine stAll_h 3 H rfl (v := rV (1 + a'' % 8) (1 + b'' % 16)) rfl rfl rfl rfl (rV_one _ _) ?_
                    intro ws H
                    refine ⟨.inl rfl, ?_⟩
                    exact ⟨rfl, rfl, rfl, x, rfl, y, rfl, z, rfl, (((H.drop 0).drop 0).drop 0).perm (.trans (.swap _ _ _) (.cons _ (.swap _ _ _)))⟩
                ·
                  have H0 := H
                  refine alloc_h H hi2 hz2 ?_
                  intro y wy H My
                  refine ⟨.inr (by simp [promsOk, promOk]; exact ⟨same_blk (H0.blk 2 rfl) (H.blk 2 rfl), same_blk (H0.blk 1 rfl) (H.blk 1 rfl)⟩), ?_⟩
                  refine call_r _ (small_c a' b') rfl ?_
                  rintro r wr ⟨rfl, Mr⟩
                  have H0 := H
                  replace H := H.same Mr
                  refine ⟨by simp [promOk]; exact same_blk (H0.blk 2 rfl) (H.blk 2 rfl), ?_⟩
                  refine call_r _ (small_c a'' b'') rfl ?_
                  rintro r wr ⟨rfl, Mr⟩
                  replace H := H.same Mr
                  refine ⟨trivial, ?_⟩
                  refine stAll_h 4 H rfl (v := rV (1 + a % 8) (1 + b % 16)) rfl rfl rfl rfl (rV_one _ _) ?_
                  intro ws H
                  refine ⟨.inl rfl, ?_⟩
                  refine stAll_h 5 H rfl (v := rV (1 + a' % 8) (1 + b' % 16)) rfl rfl rfl rfl (rV_one _ _) ?_
                  intro ws H
                  refine ⟨.inl rfl, ?_⟩
                  refine stAll_h 3 H rfl (v := rV (1 + a'' % 8) (1 + b'' % 16)) rfl rfl rfl rfl (rV_one _ _) ?_
                  intro ws H
                  refine ⟨.inl rfl, ?_⟩
                  exact ⟨rfl, rfl, rfl, x, rfl, y, rfl, z, rfl, (((H.drop 0).drop 0).drop 0).perm (.trans (.swap _ _ _) (.cons _ (.swap _ _ _)))⟩
              ·
                have H0 := H
                refine alloc_h H hi2 hz2 ?_
                intro y wy H My
                refine ⟨.inr (by simp [promsOk, promOk]; exact ⟨same_blk (H0.blk 2 rfl) (H.blk 2 rfl), same_blk (H0.blk 1 rfl) (H.blk 1 rfl), same_blk (H0.blk 0 rfl) (H.blk 0 rfl)⟩), ?_⟩
                refine call_r _ (small_c a b) rfl ?_
                rintro r wr ⟨rfl, Mr⟩
                have H0 := H
                replace H := H.same Mr
                refine ⟨by simp [promOk]; exact ⟨same_blk (H0.blk 2 rfl) (H.blk 2 rfl), same_blk (H0.blk 1 rfl) (H.blk 1 rfl)⟩, ?_⟩
                refine call_r _ (small_c a' b') rfl ?_
                rintro r wr ⟨rfl, Mr⟩
                have H0 := H
                replace H := H.same Mr
                refine ⟨by simp [promOk]; exact same_blk (H0.blk 2 rfl) (H.blk 2 rfl), ?_⟩
                refine call_r _ (small_c a'' b'') rfl ?_
                rintro r wr ⟨rfl, Mr⟩
                replace H := H.same Mr
                refine ⟨trivial, ?_⟩
                refine stAll_h 4 H rfl (v := rV (1 + a % 8) (1 + b % 16)) rfl rfl rfl rfl (rV_one _ _) ?_
                intro ws H
                refine ⟨.inl rfl, ?_⟩
                refine stAll_h 5 H rfl (v := rV (1 + a' % 8) (1 + b' % 16)) rfl rfl rfl rfl (rV_one _ _) ?_
                intro ws H
                refine ⟨.inl rfl, ?_⟩
                refine stAll_h 3 H rfl (v := rV (1 + a'' % 8) (1 + b'' % 16)) rfl rfl rfl rfl (rV_one _ _) ?_
                intro ws H
                refine ⟨.inl rfl, ?_⟩
                exact ⟨rfl, rfl, rfl, x, rfl, y, rfl, z, rfl, (((H.drop 0).drop 0).drop 0).perm (.trans (.swap _ _ _) (.cons _ (.swap _ _ _)))⟩
            ·
              have H0 := H
              refine alloc_h H hi2 hz2 ?_
              intro y wy H My
              refine ⟨.inr (by simp [promsOk, promOk]; exact ⟨same_blk (H0.blk 2 rfl) (H.blk 2 rfl), same_blk (H0.blk 1 rfl) (H.blk 1 rfl), same_blk (H0.blk 0 rfl) (H.blk 0 rfl)⟩), ?_⟩
              refine wp_alt ?_ ?_
              ·
                refine call_r _ (small_c a b) rfl ?_
                rintro r wr ⟨rfl, Mr⟩
                have H0 := H
                replace H := H.same Mr
                refine ⟨by simp [promOk]; exact ⟨same_blk (H0.blk 2 rfl) (H.blk 2 rfl), same_blk (H0.blk 1 rfl) (H.blk 1 rfl)⟩, ?_⟩
                refine wp_alt ?_ ?_
                ·
                  refine call_r _ (small_c a' b') rfl ?_
                  rintro r wr ⟨rfl, Mr⟩
                  have H0 := H
                  replace H := H.same Mr
                  refine ⟨by simp [promOk]; exact same_blk (H0.blk 2 rfl) (H.blk 2 rfl), ?_⟩
                  refine wp_alt ?_ ?_
                  ·
                    refine call_r _ (small_c a'' b'') rfl ?_
                    rintro r wr ⟨rfl, Mr⟩
                    replace H := H.same Mr
                    refine ⟨trivial, ?_⟩
                    refine alloc_h H hi2 hz2 ?_
                    intro x wx H Mx
                    refine ⟨.inl rfl, ?_⟩
                    refine stAll_h 5 H rfl (v := rV (1 + a % 8) (1 + b % 16)) rfl rfl rfl rfl (rV_one _ _) ?_
                    intro ws H
                    refine ⟨.inl rfl, ?_⟩
                    refine stAll_h 4 H rfl (v := rV (1 + a' % 8) (1 + b' % 16)) rfl rfl rfl rfl (rV_one _ _) ?_
                    intro ws H
                    refine ⟨.inl rfl, ?_⟩
                    refine stAll_h 3 H rfl (v := rV (1 + a'' % 8) (1 + b'' % 16)) rfl rfl rfl rfl (rV_one _ _) ?_
                    intro ws H
                    refine ⟨.inl rfl, ?_⟩
                    exact ⟨rfl, rfl, rfl, x, rfl, y, rfl, z, rfl, (((H.drop 0).drop 0).drop 0).perm (.trans (.swap _ _ _) (.trans (.cons _ (.swap _ _ _)) (.swap _ _ _)))⟩
                  ·
                    have H0 := H
                    refine alloc_h H hi2 hz2 ?_
                    intro x wx H Mx
                    refine ⟨.inr (by simp [promsOk, promOk]; exact same_blk (H0.blk 2 rfl) (H.blk 2 rfl)), ?_⟩
                    refine call_r _ (small_c a'' b'') rfl ?_
                    rintro r wr ⟨rfl, Mr⟩
                    replace H := H.same Mr
                    refine ⟨trivial, ?_⟩
                    refine stAll_h 5 H rfl (v := rV (1 + a % 8) (1 + b % 16)) rfl rfl rfl rfl (rV_one _ _) ?_
                    intro ws H
                    refine ⟨.inl rfl, ?_⟩
                    refine stAll_h 4 H rfl (v := rV (1 + a' % 8) (1 + b' % 16)) rfl rfl rfl rfl (rV_one _ _) ?_
                    intro ws H
                    refine ⟨.inl rfl, ?_⟩
                    refine stAll_h 3 H rfl (v := rV (1 + a'' % 8) (1 + b'' % 16)) rfl rfl rfl rfl (rV_one _ _) ?_
                    intro ws H
                    refine ⟨.inl rfl, ?_⟩
                    exact ⟨rfl, rfl, rfl, x, rfl, y, rfl, z, rfl, (((H.drop 0).drop 0).drop 0).perm (.trans (.swap _ _ _) (.trans (.cons _ (.swap _ _ _)) (.swap _ _ _)))⟩
                ·
                  have H0 := H
                  refine alloc_h H hi2 hz2 ?_
                  intro x wx H Mx
                  refine ⟨.inr (by simp [promsOk, promOk]; exact ⟨same_blk (H0.blk 2 rfl) (H.blk 2 rfl), same_blk (H0.blk 1 rfl) (H.blk 1 rfl)⟩), ?_⟩
                  refine call_r _ (small_c a' b') rfl ?_
                  rintro r wr ⟨rfl, Mr⟩
                  have H0 := H
                  replace H := H.same Mr
                  refine ⟨by simp [promOk]; exact same_blk (H0.blk 2 rfl) (H.blk 2 rfl), ?_⟩
                  refine call_r _ (small_c a'' b'') rfl ?_
                  rintro r wr ⟨rfl, Mr⟩
                  replace H := H.same Mr
                  refine ⟨trivial, ?_⟩
                  refine stAll_h 5 H rfl (v := rV (1 + a % 8) (1 + b % 16)) rfl rfl rfl rfl (rV_one _ _) ?_
                  intro ws H
                  refine ⟨.inl rfl, ?_⟩
                  refine stAll_h 4 H rfl (v := rV (1 + a' % 8) (1 + b' % 16)) rfl rfl rfl rfl (rV_one _ _) ?_
                  intro ws H
                  refine ⟨.inl rfl, ?_⟩
                  refine stAll_h 3 H rfl (v := rV (1 + a'' % 8) (1 + b'' % 16)) rfl rfl rfl rfl (rV_one _ _) ?_
                  intro ws H
                  refine ⟨.inl rfl, ?_⟩
                  exact ⟨rfl, rfl, rfl, x, rfl, y, rfl, z, rfl, (((H.drop 0).drop 0).drop 0).perm (.trans (.swap _ _ _) (.trans (.cons _ (.swap _ _ _)) (.swap _ _ _)))⟩
              ·
                have H0 := H
                refine alloc_h H hi2 hz2 ?_
                intro x wx H Mx
                refine ⟨.inr (by simp [promsOk, promOk]; exact ⟨same_blk (H0.blk 2 rfl) (H.blk 2 rfl), same_blk (H0.blk 1 rfl) (H.blk 1 rfl), same_blk (H0.blk 0 rfl) (H.blk 0 rfl)⟩), ?_⟩
                refine call_r _ (small_c a b) rfl ?_
                rintro r wr ⟨rfl, Mr⟩
                have H0 := H
                replace H := H.same Mr
                refine ⟨by simp [promOk]; exact ⟨same_blk (H0.blk 2 rfl) (H.blk 2 rfl), same_blk (H0.blk 1 rfl) (H.blk 1 rfl)⟩, ?_⟩
                refine call_r _ (small_c a' b') rfl ?_
                rintro r wr ⟨rfl, Mr⟩
                have H0 := H
                replace H := H.same Mr
                refine ⟨by simp [promOk]; exact same_blk (H0.blk 2 rfl) (H.blk 2 rfl), ?_⟩
                refine call_r _ (small_c a'' b'') rfl ?_
                rintro r wr ⟨rfl, Mr⟩
                replace H := H.same Mr
                refine ⟨trivial, ?_⟩
                refine stAll_h 5 H rfl (v := rV (1 + a % 8) (1 + b % 16)) rfl rfl rfl rfl (rV_one _ _) ?_
                intro ws H
                refine ⟨.inl rfl, ?_⟩
                refine stAll_h 4 H rfl (v := rV (1 + a' % 8) (1 + b' % 16)) rfl rfl rfl rfl (rV_one _ _) ?_
                intro ws H
                refine ⟨.inl rfl, ?_⟩
                refine stAll_h 3 H rfl (v := rV (1 + a'' % 8) (1 + b'' % 16)) rfl rfl rfl rfl (rV_one _ _) ?_
                intro ws H
                refine ⟨.inl rfl, ?_⟩
                exact ⟨rfl, rfl, rfl, x, rfl, y, rfl, z, rfl, (((H.drop 0).drop 0).drop 0).perm (.trans (.swap _ _ _) (.trans (.cons _ (.swap _ _ _)) (.swap _ _ _)))⟩
  · exact order_rest a b a' b' a'' b'' n m k

end Go.Proofs.Ytflglnigcidmaaa.VG
