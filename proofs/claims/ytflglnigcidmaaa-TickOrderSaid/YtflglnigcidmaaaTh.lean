/-
  Tick: the law TickOrder: calls of effects in any order.
-/
import Derived.Test.YtflglnigcidmaaaTg
namespace Go.Proofs.Ytflglnigcidmaaa.VG
open Go
set_option linter.unusedSimpArgs false
set_option linter.unusedVariables false

theorem Sep.perm {B : Nat} {w : World} {l l' : List It} (p : l.Perm l') : ∀ Fs, Sep B w l Fs → ∃ Gs, Sep B w l' Gs ∧ (∀ K : Nat → Prop, (∀ G ∈ Fs, ∀ k, K k → ¬ G k) → ∀ G ∈ Gs, ∀ k, K k → ¬ G k) := by
  induction p with
  | nil => exact fun Fs h => ⟨Fs, h, fun _ h => h⟩
  | cons x _ ih => exact Sep.under ih x
  | swap x y l => exact fun Fs h => Sep.swap h
  | trans _ _ ih1 ih2 =>
    intro Fs h
    obtain ⟨Gs, h1, h2⟩ := ih1 Fs h
    obtain ⟨Ks, h3, h4⟩ := ih2 Gs h1
    exact ⟨Ks, h3, fun K hK => h4 K (h2 K hK)⟩
/-- What is owned may be told in any order. -/
theorem Hp.perm {W w : World} {l l' : List It} (h : Hp W w l) (p : l.Perm l') : Hp W w l' := by
  obtain ⟨Fs, hs⟩ := h.sep
  obtain ⟨Gs, g, _⟩ := Sep.perm p Fs hs
  exact ⟨h.mod, Gs, g⟩
theorem sq_r {P : Program} {Q : Exit → Env → World → Prop} {env : Env} {w : World} {a k : S} (J : Env → World → Prop) (h : a.wp P (thn J Q) env w) (hk : ∀ env w, J env w → k.wp P Q env w) : (S.sq a k).wp P Q env w :=
  wp_weaken a (thn_imp (fun env' w' h => hk env' w' h) (fun _ _ _ h => h)) h

theorem rV_one (a b : Int) : ∀ x ∈ (rV a b).cells.toList, one1 x = true := by simp [rV_cells]

/-- The law's text behind the places. -/
def orderRest : S := match s6 with
  | .op _ _ _ _ _ (.op _ _ _ _ _ (.op _ _ _ _ _ (.set _ _ (.sq _ k)))) => k
  | s => s
set_option maxHeartbeats 4000000 in
theorem order_rest {w : World} (a b a' b' a'' b'' n m k : Int) (env : Env) (w' : World)
    (h : env 3 = .int .i64 n ∧ env 4 = .int .i64 m ∧ env 5 = .int .i64 k ∧ ∃ x y z, env 13 = .pointer (some ⟨x, 0, none⟩) ∧ env 14 = .pointer (some ⟨y, 0, none⟩) ∧ env 15 = .pointer (some ⟨z, 0, none⟩) ∧
      Hp w w' [.blk x (rV (1 + a % 8) (1 + b % 16)).cells, .blk y (rV (1 + a' % 8) (1 + b' % 16)).cells, .blk z (rV (1 + a'' % 8) (1 + b'' % 16)).cells]) :
    orderRest.wp Try.prog (postF [.vr 12] fun r w' => r = .bool true ∧ Mod none' w w') env w' := by
  obtain ⟨e3, e4, e5, x, y, z, e13, e14, e15, H⟩ := h
  have m1 := small_may a b
  have m2 := small_may a' b'
  have m3 := small_may a'' b''
  have r1 := mayR_iff.1 m1
  have r2 := mayR_iff.1 m2
  have r3 := mayR_iff.1 m3
  have hb1 : 1 + b % 16 ≤ 16 := by omega
  have hb2 : 1 + b' % 16 ≤ 16 := by omega
  generalize 1 + a % 8 = A at *
  generalize 1 + b % 16 = B at *
  generalize 1 + a' % 8 = A' at *
  generalize 1 + b' % 16 = B' at *
  generalize 1 + a'' % 8 = A'' at *
  generalize 1 + b'' % 16 = B'' at *
  unfold orderRest s6
  simp [e3, e4, e5, and10]
  have n0 : 0 ≤ n % 1024 ∧ n % 1024 ≤ 1024 := by omega
  have n1 : n % 1024 + 1 ≤ 1024 := by omega
  have n2 : 0 ≤ m % 1024 ∧ m % 1024 ≤ 1024 := by omega
  have n3 : 0 ≤ k % 1024 ∧ k % 1024 ≤ 1024 := by omega
  generalize n % 1024 = N at *
  generalize m % 1024 = M at *
  generalize k % 1024 = K at *
  replace H := H.drew
  obtain ⟨_, _, h2, h3⟩ := r4 (H.blk 0 rfl)
  obtain ⟨_, _, k2, k3⟩ := r4 (H.blk 1 rfl)
  obtain ⟨_, _, l2, l3⟩ := r4 (H.blk 2 rfl)
  have w3e : ∀ a, cellsFrom w'.drew a 0 2 = cellsFrom w' a 0 2 := fun a => cellsFrom_drew 0 2
  simp only [w3e, cell_drew] at h2 h3 k2 k3 l2 l3
  simp [e13, e14, e15, h2, h3, k2, k3, l2, l3]
  refine call_r _ (cmp_c A B N A' B' M) (by simp) ?_
  rintro r w2 ⟨rfl, Mr⟩
  have H0 := H
  replace H := H.same Mr
  refine ⟨by simp [promOk, e13, e14, e15]; exact ⟨same_blk (H0.blk 2 rfl) (H.blk 2 rfl), same_blk (H0.blk 0 rfl) (H.blk 0 rfl), same_blk (H0.blk 2 rfl) (H.blk 2 rfl), same_blk (H0.blk 1 rfl) (H.blk 1 rfl)⟩, ?_⟩
  refine call_r _ (cmp_c A' B' M A'' B'' K) (by simp) ?_
  rintro r w3 ⟨rfl, Mr⟩
  have H0 := H
  replace H := H.same Mr
  refine ⟨by simp [promOk, e13, e14, e15]; exact ⟨same_blk (H0.blk 2 rfl) (H.blk 2 rfl), same_blk (H0.blk 0 rfl) (H.blk 0 rfl)⟩, ?_⟩
  refine callm (cmp_c A B N A'' B'' K) (by simp (disch := omega) [wI, wU, tmod_nn, tdiv_nn, env0_0, env0_1, env0_2, env0_3, env0_4, env0_5, -env0_apply]) ?_
  intro w' M'
  replace H := H.same M'
  obtain ⟨_, _, h2, h3⟩ := r4 (H.blk 0 rfl)
  obtain ⟨_, _, k2, k3⟩ := r4 (H.blk 1 rfl)
  obtain ⟨_, _, l2, l3⟩ := r4 (H.blk 2 rfl)
  simp [e13, h2, h3]
  refine callm (at_c A B N) (by simp (disch := omega) [wI, wU, tmod_nn, tdiv_nn, env0_0, env0_1, env0_2, env0_3, env0_4, env0_5, -env0_apply]) ?_
  intro w' M'
  replace H := H.same M'
  obtain ⟨_, _, h2, h3⟩ := r4 (H.blk 0 rfl)
  obtain ⟨_, _, k2, k3⟩ := r4 (H.blk 1 rfl)
  obtain ⟨_, _, l2, l3⟩ := r4 (H.blk 2 rfl)
  simp [e14, k2, k3]
  refine callm (at_c A' B' M) (by simp (disch := omega) [wI, wU, tmod_nn, tdiv_nn, env0_0, env0_1, env0_2, env0_3, env0_4, env0_5, -env0_apply]) ?_
  intro w' M'
  replace H := H.same M'
  obtain ⟨_, _, h2, h3⟩ := r4 (H.blk 0 rfl)
  obtain ⟨_, _, k2, k3⟩ := r4 (H.blk 1 rfl)
  obtain ⟨_, _, l2, l3⟩ := r4 (H.blk 2 rfl)
  simp [e13, e14, h2, h3, k2, k3]
  refine callm (cmp_c A' B' M A B N) (by simp (disch := omega) [wI, wU, tmod_nn, tdiv_nn, env0_0, env0_1, env0_2, env0_3, env0_4, env0_5, -env0_apply]) ?_
  intro w' M'
  replace H := H.same M'
  rw [cmp_is m1 m2 n0 n2, cmp_is m2 m3 n2 n3, cmp_is m1 m3 n0 n3, cmp_is m2 m1 n2 n0, (at_ok m1 n0.1 (by omega)).1, (at_ok m2 n2.1 (by omega)).1]
  have f1 := sgn_neg (N * B * A') (M * B' * A)
  have f2 := sgn_bd (N * B * A') (M * B' * A)
  have f3 := sgn_bd (M * B' * A'') (K * B'' * A')
  have f4 := sgn_bd (N * B * A'') (K * B'' * A)
  have f5 := sgn_bd (M * B' * A) (N * B * A')
  have g1 : sgn3 (N * B * A') (M * B' * A) ≤ 0 → sgn3 (M * B' * A'') (K * B'' * A') ≤ 0 → sgn3 (N * B * A'') (K * B'' * A) ≤ 0 := fun u v => le_sgn (order_trans (by omega) (by omega) (by omega) (sgn_le u) (sgn_le v))
  have g2 : N * B / A < M * B' / A' → sgn3 (N * B * A') (M * B' * A) = -1 := fun u => lt_sgn (order_at (by omega) (by omega) u)
  have g3 : M * B' / A' < N * B / A → sgn3 (N * B * A') (M * B' * A) = 1 := fun u => gt_sgn (order_at (by omega) (by omega) u)
  have g4 : sgn3 (N * B * A) ((N + 1) * B * A) = -1 := by
    refine lt_sgn ?_
    have e : (N + 1) * B * A = N * B * A + B * A := by rw [Int.add_mul, Int.one_mul, Int.add_mul]
    have := Int.mul_pos (show 0 < B by omega) (show 0 < A by omega)
    omega
  have g5 := sgn_self (N * B * A)
  generalize sgn3 (N * B * A') (M * B' * A) = p at *
  generalize sgn3 (M * B' * A'') (K * B'' * A') = q at *
  generalize sgn3 (N * B * A'') (K * B'' * A) = o at *
  generalize sgn3 (M * B' * A) (N * B * A') = p' at *
  obtain ⟨_, _, h2, h3⟩ := r4 (H.blk 0 rfl)
  obtain ⟨_, _, k2, k3⟩ := r4 (H.blk 1 rfl)
  obtain ⟨_, _, l2, l3⟩ := r4 (H.blk 2 rfl)
  have hwp : IntKind.i64.wrap (-p') = p := by rw [wI (by omega) (by omega)]; omega
  simp [e13, h2, h3, hwp]
  refine ifg_r (t := true) (by simp [hwp]) (fun _ => ?_) (fun h => (h rfl).elim)
  refine callm (cmp_c A B N A B N) (by simp (disch := omega) [wI, wU, tmod_nn, tdiv_nn, env0_0, env0_1, env0_2, env0_3, env0_4, env0_5, -env0_apply, hwp, h2]) ?_
  intro w' M'
  replace H := H.same M'
  rw [cmp_is m1 m1 n0 n0, g5]
  obtain ⟨_, _, h2, h3⟩ := r4 (H.blk 0 rfl)
  have hw1 : IntKind.i64.wrap (N + 1) = N + 1 := wI (by omega) (by omega)
  simp [e13, h2, h3, hwp, hw1]
  refine ifg_r (t := true) (by simp [hwp]) (fun _ => ?_) (fun h => (h rfl).elim)
  refine callm (cmp_c A B N A B (N + 1)) (by simp (disch := omega) [wI, wU, tmod_nn, tdiv_nn, env0_0, env0_1, env0_2, env0_3, env0_4, env0_5, -env0_apply, hwp, h2, hw1]) ?_
  intro w' M'
  replace H := H.same M'
  rw [cmp_is m1 m1 n0 ⟨by omega, n1⟩, g4]
  simp [hwp, hw1]
  have c1 : ¬ (0 < p) → ¬ (0 < q) → o ≤ 0 := fun u v => g1 (by omega) (by omega)
  have c2 : (0 < p ∨ 0 < q) ∨ o ≤ 0 := by
    by_cases u : 0 < p
    · exact .inl (.inl u)
    · by_cases v : 0 < q
      · exact .inl (.inr v)
      · exact .inr (c1 u v)
  have c3 : M * B' / A' ≤ N * B / A ∨ p = -1 := by
    rcases Int.lt_or_le (N * B / A) (M * B' / A') with h | h
    · exact .inr (g2 h)
    · exact .inl h
  have c4 : N * B / A ≤ M * B' / A' ∨ p = 1 := by
    rcases Int.lt_or_le (M * B' / A') (N * B / A) with h | h
    · exact .inr (g3 h)
    · exact .inl h
  generalize M * B' / A' = G at *
  generalize N * B / A = F at *
  simp [c2, c3, c4]
  refine ifg_r (t := true) (by simp [c2, c3, c4]) (fun _ => ?_) (fun h => (h rfl).elim)
  refine callm (tknown_c) (by simp (disch := omega) [wI, wU, tmod_nn, tdiv_nn, env0_0, env0_1, env0_2, env0_3, env0_4, env0_5, -env0_apply]) ?_
  intro w' M'
  replace H := H.same M'
  simp [c2, c3, c4]
  exact H.mod

end Go.Proofs.Ytflglnigcidmaaa.VG
