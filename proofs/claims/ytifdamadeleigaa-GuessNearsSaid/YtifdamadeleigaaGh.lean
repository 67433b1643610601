/-
  Guesses: the laws of fore and back.
-/
import Derived.Test.YtifdamadeleigaaGg
namespace Go.Proofs.Ytifdamadeleigaa.VG
open Go
set_option linter.unusedSimpArgs false
set_option linter.unusedVariables false

theorem wrap_sub {s g d : Int} (hd : dep d = true) (hs : 0 ≤ s ∧ s < p2 d) : wrapI (wrapI (s - g) d + g) d = s := by
  rw [wrapI, if_pos hd, wrapI, if_pos hd, Int.emod_add_emod, show s - g + g = s by omega]
  exact Int.emod_eq_of_lt hs.1 hs.2
theorem wrap_add {s g d : Int} (hd : dep d = true) (hs : 0 ≤ s ∧ s < p2 d) : wrapI (wrapI (s + g) d - g) d = s := by
  have hp := p2_bd (dep_iff.1 hd).2
  rw [wrapI, if_pos hd, wrapI, if_pos hd]
  have : ((s + g) % p2 d - g) % p2 d = (s + g - g) % p2 d := by rw [Int.emod_sub_emod]
  rw [this, show s + g - g = s by omega]
  exact Int.emod_eq_of_lt hs.1 hs.2
theorem guess_app (p q : List Int) (W : Nat) (d k : Int) (x y : Nat) (h : y * W + x ≤ p.length) : guessAt (p ++ q) W d k x y = guessAt p W d k x y := by
  unfold guessAt; rw [near_app p q W x y h]
theorem foreTo_gi (l : List Int) (W : Nat) (d : Int) (ks : List Int) : ∀ N i, i < N → gi (foreTo l W d ks N) i = foreAt l W d (gi ks (i / W)) (i % W) (i / W)
  | 0, i, h => by omega
  | N + 1, i, h => by
    have hl := foreTo_len l W d ks N
    by_cases hi : i = N
    · subst hi
      rw [foreTo, gi, List.getD_eq_getElem?_getD, List.getElem?_append_right (by omega), hl, Nat.sub_self]; rfl
    · rw [foreTo, gi_app_left _ _ _ (by omega), foreTo_gi l W d ks N i (by omega)]
theorem backTo_split (l : List Int) (W : Nat) (d : Int) (ks : List Int) (i : Nat) : ∀ j, i ≤ j → ∃ r, backTo l W d ks j = backTo l W d ks i ++ r
  | 0, h => ⟨[], by obtain rfl : i = 0 := by omega
                    simp⟩
  | j + 1, h => by
    by_cases he : i = j + 1
    · subst he; exact ⟨[], by simp⟩
    · obtain ⟨r, hr⟩ := backTo_split l W d ks i j (by omega)
      exact ⟨r ++ [wrapI (gi l j + guessAt (backTo l W d ks j) W d (gi ks (j / W)) (j % W) (j / W)) d], by rw [backTo, hr, List.append_assoc]⟩
theorem backTo_gi (l : List Int) (W : Nat) (d : Int) (ks : List Int) (N i : Nat) (h : i < N) : gi (backTo l W d ks N) i = wrapI (gi l i + guessAt (backTo l W d ks i) W d (gi ks (i / W)) (i % W) (i / W)) d := by
  obtain ⟨r, hr⟩ := backTo_split l W d ks (i + 1) N h
  have hl := backTo_len l W d ks i
  rw [hr, gi_app_left _ _ _ (by rw [backTo_len]; omega), backTo, gi, List.getD_eq_getElem?_getD, List.getElem?_append_right (by omega), hl, Nat.sub_self]; rfl
/-- Back of fore. -/
theorem back_fore {l : List Int} {W : Nat} (hW : 0 < W) {d : Int} (ks : List Int) (hd : dep d = true) (hall : l.all (inD d) = true) : ∀ i, i ≤ l.length → backTo (foreTo l W d ks l.length) W d ks i = l.take i
  | 0, _ => by simp [backTo]
  | i + 1, hi => by
    have ih := back_fore hW ks hd hall i (by omega)
    have e : l = l.take i ++ l.drop i := by simp
    have hiW : i / W * W + i % W = i := by rw [Nat.mul_comm]; exact Nat.div_add_mod i W
    have hg : guessAt l W d (gi ks (i / W)) (i % W) (i / W) = guessAt (l.take i) W d (gi ks (i / W)) (i % W) (i / W) := by
      conv => lhs; rw [e]
      exact guess_app _ _ _ _ _ _ _ (by rw [hiW]; simp; omega)
    rw [backTo, ih, foreTo_gi l W d ks l.length i (by omega), foreAt, hg, hiW, wrap_sub hd (gi_lt hall i (by omega)), gi_take_snoc l i (by omega)]
/-- Fore of back. -/
theorem fore_back {l : List Int} {W : Nat} (hW : 0 < W) {d : Int} (ks : List Int) (hd : dep d = true) (hall : l.all (inD d) = true) : ∀ i, i ≤ l.length → foreTo (backTo l W d ks l.length) W d ks i = l.take i
  | 0, _ => by simp [foreTo]
  | i + 1, hi => by
    have ih := fore_back hW ks hd hall i (by omega)
    have hiW : i / W * W + i % W = i := by rw [Nat.mul_comm]; exact Nat.div_add_mod i W
    obtain ⟨r, hr⟩ := backTo_split l W d ks i l.length (by omega)
    have hg : guessAt (backTo l W d ks l.length) W d (gi ks (i / W)) (i % W) (i / W) = guessAt (backTo l W d ks i) W d (gi ks (i / W)) (i % W) (i / W) := by
      rw [hr]
      exact guess_app _ _ _ _ _ _ _ (by rw [hiW, backTo_len]; omega)
    rw [foreTo, ih, foreAt, hiW, backTo_gi l W d ks l.length i (by omega), hg, wrap_add hd (gi_lt hall i (by omega)), gi_take_snoc l i (by omega)]
theorem all_in {l : List Int} {d : Int} (h : ∀ i, i < l.length → 0 ≤ gi l i ∧ gi l i < p2 d) : l.all (inD d) = true := by
  rw [List.all_eq_true]
  intro x hx
  obtain ⟨i, hi, rfl⟩ := List.mem_iff_getElem.1 hx
  rw [← gi_get l i hi]
  exact inD_iff.2 (h i hi)
theorem fore_plane {l ks : List Int} {w h d : Int} (hp : planeB l w h d = true) : planeB (foreTo l w.toNat d ks l.length) w h d = true := by
  obtain ⟨h1, h2, h3, h4, h5⟩ := planeB_iff.1 hp
  refine planeB_iff.2 ⟨h1, h2, h3, by rw [foreTo_len]; exact h4, all_in fun i hi => ?_⟩
  rw [foreTo_len] at hi
  rw [foreTo_gi _ _ _ _ _ _ hi]
  exact wrap_bd _ h3
theorem back_plane {l ks : List Int} {w h d : Int} (hp : planeB l w h d = true) : planeB (backTo l w.toNat d ks l.length) w h d = true := by
  obtain ⟨h1, h2, h3, h4, h5⟩ := planeB_iff.1 hp
  refine planeB_iff.2 ⟨h1, h2, h3, by rw [backTo_len]; exact h4, all_in fun i hi => ?_⟩
  rw [backTo_len] at hi
  rw [backTo_gi _ _ _ _ _ _ hi]
  exact wrap_bd _ h3
/-- The best kinds leave least, row by row. -/
theorem bstK_least (l : List Int) (W : Nat) (d : Int) (y : Nat) : ∀ j, (bstK l W d y j).2 = wtI (rowTo l W d (bstK l W d y j).1 y W) d ∧ (0 ≤ (bstK l W d y j).1 ∧ (bstK l W d y j).1 ≤ j) ∧ ∀ k : Nat, k ≤ j → (bstK l W d y j).2 ≤ rowW l W d y k
  | 0 => ⟨rfl, ⟨Int.le_refl _, Int.le_refl _⟩, fun k hk => by obtain rfl : k = 0 := by omega
                                                              exact Int.le_refl _⟩
  | j + 1 => by
    obtain ⟨h1, h2, h3⟩ := bstK_least l W d y j
    have hs : bstK l W d y (j + 1) = if rowW l W d y (j + 1) < (bstK l W d y j).2 then (((j + 1 : Nat) : Int), rowW l W d y (j + 1)) else bstK l W d y j := rfl
    by_cases hc : rowW l W d y (j + 1) < (bstK l W d y j).2
    · rw [if_pos hc] at hs
      rw [hs]
      refine ⟨rfl, ⟨by simp only; omega, by simp only; omega⟩, fun k hk => ?_⟩
      by_cases he : k = j + 1
      · subst he; exact Int.le_refl _
      · have := h3 k (by omega); simp only; omega
    · rw [if_neg hc] at hs
      rw [hs]
      refine ⟨h1, ⟨h2.1, by omega⟩, fun k hk => ?_⟩
      by_cases he : k = j + 1
      · subst he; omega
      · exact h3 k (by omega)
theorem bstKs_kinds (l : List Int) (W : Nat) (d : Int) : ∀ N, (bstKs l W d 9 N).all kindB = true
  | 0 => rfl
  | N + 1 => by
    have := (bstK_least l W d N 9).2.1
    rw [bstKs, List.all_append, bstKs_kinds l W d N]
    simp [kindB_iff]; omega
theorem kinds_ok' {ks : List Int} {H' : Nat} (h1 : ks.length = H') (h2 : ks.all kindB = true) : kindsB ks H' = true := by
  simp [kindsB, h1, h2]
theorem pl_plane {p : List Int} {W H' : Nat} {d : Int} (h : IsPl p (W * H') d) (hW : 1 ≤ W ∧ W ≤ 64) (hH : 1 ≤ H' ∧ H' ≤ 64) (hd : dep d = true) : planeB p W H' d = true := by
  refine planeB_iff.2 ⟨by omega, by omega, hd, by rw [h.1, Int.natCast_mul], ?_⟩
  rw [List.all_eq_true]
  exact fun x hx => inD_iff.2 (h.2 x hx)

end Go.Proofs.Ytifdamadeleigaa.VG
