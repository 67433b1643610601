/-
  Tick: the law TickOrder.
-/
import Derived.Test.YtflglnigcidmaaaTf
namespace Go.Proofs.Ytflglnigcidmaaa.VG
open Go
set_option linter.unusedSimpArgs false
set_option linter.unusedVariables false

theorem and10 (x : Int) : bitw .and .i64 x 1023 = x % 1024 := and_m x 10 (by omega)

theorem sgn_neg (x y : Int) : sgn3 x y = -sgn3 y x := by unfold sgn3; split <;> split <;> (try split) <;> omega
theorem sgn_self (x : Int) : sgn3 x x = 0 := by unfold sgn3; simp
theorem sgn_le {x y : Int} (h : sgn3 x y ≤ 0) : x ≤ y := by unfold sgn3 at h; split at h; omega; split at h <;> omega
theorem le_sgn {x y : Int} (h : x ≤ y) : sgn3 x y ≤ 0 := by unfold sgn3; split; omega; split <;> omega
theorem lt_sgn {x y : Int} (h : x < y) : sgn3 x y = -1 := by unfold sgn3; rw [if_pos h]
theorem gt_sgn {x y : Int} (h : y < x) : sgn3 x y = 1 := by unfold sgn3; rw [if_neg (by omega), if_pos h]
theorem sgn_bd (x y : Int) : -1 ≤ sgn3 x y ∧ sgn3 x y ≤ 1 := by unfold sgn3; split; omega; split <;> omega

theorem cmp_is {a b n a' b' m : Int} (h1 : mayR a b = true) (h2 : mayR a' b' = true) (h3 : 0 ≤ n ∧ n ≤ 1024) (h4 : 0 ≤ m ∧ m ≤ 1024) : cmpS a b n a' b' m = sgn3 (n * b * a') (m * b' * a) := by
  have c1 : cnt n = true := cnt_iff.2 (by omega)
  have c2 : cnt m = true := cnt_iff.2 (by omega)
  simp [cmpS, h1, h2, c1, c2]

/-- One order: going on. -/
theorem order_trans {a b c a' b' c' x y z : Int} (ha : 0 < a) (hb : 0 < b) (hc : 0 < c) (h1 : x * a' * b ≤ y * b' * a) (h2 : y * b' * c ≤ z * c' * b) : x * a' * c ≤ z * c' * a := by
  have e1 : x * a' * b * c ≤ y * b' * a * c := Int.mul_le_mul_of_nonneg_right h1 (by omega)
  have e2 : y * b' * c * a ≤ z * c' * b * a := Int.mul_le_mul_of_nonneg_right h2 (by omega)
  have e3 : y * b' * a * c = y * b' * c * a := Int.mul_right_comm _ _ _
  have e4 : x * a' * b * c = x * a' * c * b := Int.mul_right_comm _ _ _
  have e5 : z * c' * b * a = z * c' * a * b := Int.mul_right_comm _ _ _
  exact Int.le_of_mul_le_mul_right (a := b) (by omega) hb
theorem order_at {a b a' b' x y : Int} (ha : 0 < a) (hb : 0 < b) (h : x * a' / a < y * b' / b) : x * a' * b < y * b' * a := by
  have h1 : x * a' < (y * b' / b) * a := by
    have := (Int.ediv_lt_iff_lt_mul ha).1 h
    exact this
  have h2 : (y * b' / b) * b ≤ y * b' := Int.ediv_mul_le _ (by omega)
  have e1 : x * a' * b < (y * b' / b) * a * b := Int.mul_lt_mul_of_pos_right h1 hb
  have e2 : (y * b' / b) * b * a ≤ y * b' * a := Int.mul_le_mul_of_nonneg_right h2 (by omega)
  have e3 : (y * b' / b) * a * b = (y * b' / b) * b * a := Int.mul_right_comm _ _ _
  omega

theorem Sep.swap {B : Nat} {w : World} {i j : It} {r : List It} {Fs : List (Nat → Prop)} (h : Sep B w (i :: j :: r) Fs) : ∃ Gs, Sep B w (j :: i :: r) Gs ∧ (∀ K : Nat → Prop, (∀ G ∈ Fs, ∀ k, K k → ¬ G k) → ∀ G ∈ Gs, ∀ k, K k → ¬ G k) := by
  match Fs, h with
  | F :: G :: Fs, ⟨h1, h2, h3, h4, h5, h6, h7⟩ =>
    refine ⟨G :: F :: Fs, ⟨h4, h5, ?_, h1, h2, fun K hK => h3 K (List.mem_cons_of_mem _ hK), h7⟩, ?_⟩
    · intro K hK k hk hk'
      rcases List.mem_cons.1 hK with rfl | hK
      · exact h3 G (List.mem_cons_self ..) k hk' hk
      · exact h6 K hK k hk hk'
    · intro K hK L hL
      simp only [List.mem_cons] at hL
      rcases hL with rfl | rfl | hL
      · exact hK _ (by simp)
      · exact hK _ (by simp)
      · exact hK _ (by simp [hL])
theorem Sep.under {B : Nat} {w : World} {l l' : List It} (h : ∀ Fs, Sep B w l Fs → ∃ Gs, Sep B w l' Gs ∧ (∀ K : Nat → Prop, (∀ G ∈ Fs, ∀ k, K k → ¬ G k) → ∀ G ∈ Gs, ∀ k, K k → ¬ G k)) (i : It) :
    ∀ Fs, Sep B w (i :: l) Fs → ∃ Gs, Sep B w (i :: l') Gs ∧ (∀ K : Nat → Prop, (∀ G ∈ Fs, ∀ k, K k → ¬ G k) → ∀ G ∈ Gs, ∀ k, K k → ¬ G k) := by
  intro Fs hs
  match Fs, hs with
  | F :: Fs, ⟨h1, h2, h3, h4⟩ =>
    obtain ⟨Gs, g1, g2⟩ := h Fs h4
    refine ⟨F :: Gs, ⟨h1, h2, g2 F h3, g1⟩, ?_⟩
    intro K hK L hL
    rcases List.mem_cons.1 hL with rfl | hL
    · exact hK _ (List.mem_cons_self ..)
    · exact g2 K (fun G hG => hK G (List.mem_cons_of_mem _ hG)) L hL
theorem Hp.swap3 {W w : World} {a b c x y : It} {r : List It} (h : Hp W w (a :: b :: c :: x :: y :: r)) : Hp W w (a :: b :: c :: y :: x :: r) := by
  obtain ⟨Fs, hs⟩ := h.sep
  obtain ⟨Gs, g, _⟩ := Sep.under (Sep.under (Sep.under (fun Fs h => Sep.swap (i := x) (j := y) (r := r) h) c) b) a Fs hs
  exact ⟨h.mod, Gs, g⟩
theorem Hp.swap4 {W w : World} {a b c d x y : It} {r : List It} (h : Hp W w (a :: b :: c :: d :: x :: y :: r)) : Hp W w (a :: b :: c :: d :: y :: x :: r) := by
  obtain ⟨Fs, hs⟩ := h.sep
  obtain ⟨Gs, g, _⟩ := Sep.under (Sep.under (Sep.under (Sep.under (fun Fs h => Sep.swap (i := x) (j := y) (r := r) h) d) c) b) a Fs hs
  exact ⟨h.mod, Gs, g⟩

theorem wp_alt {P : Program} {a b : S} {Q : Exit → Env → World → Prop} {env : Env} {w : World} (ha : a.wp P Q env w) (hb : b.wp P Q env w) : (S.alt a b).wp P Q env w := ⟨ha, hb⟩

end Go.Proofs.Ytflglnigcidmaaa.VG
