/-
  Rice: two known residuals; the laws of folding, of costs, of the best parameter (and what goes with it: parts Rf Rg Rh).
-/
import Derived.Test.YtcljnpodfhgjkaaRe
import Derived.Test.YtcljnpodfhgjkaaBw
import Derived.Test.YtcljnpodfhgjkaaSi
import Derived.Test.YtcljnpodfhgjkaaBl

/-! ## Rice: two known residuals; the laws of folding, of costs, of the best parameter. -/
namespace Go.Proofs.Ytcljnpodfhgjkaa.VG
open Go
set_option linter.unusedSimpArgs false
set_option linter.unusedVariables false
set_option maxRecDepth 20000

theorem fold_inj {a b : Int} (ha : wideB a = true) (hb : wideB b = true) : foldN a = foldN b ↔ a = b :=
  ⟨fun h => by rw [← unf_fold ha, ← unf_fold hb, h], fun h => by rw [h]⟩
theorem fold_near {a b : Int} (ha : wideB a = true) (hb : wideB b = true) (h : max a (-1 - a) < max b (-1 - b)) : foldN a < foldN b := by
  have a1 : 0 ≤ a → (foldN a : Int) = 2 * a := fun h => foldN_pos ha h
  have a2 : ¬ 0 ≤ a → (foldN a : Int) = -2 * a - 1 := fun h => foldN_neg ha h
  have b1 : 0 ≤ b → (foldN b : Int) = 2 * b := fun h => foldN_pos hb h
  have b2 : ¬ 0 ≤ b → (foldN b : Int) = -2 * b - 1 := fun h => foldN_neg hb h
  omega
theorem cost_rise {k a b : Int} (hk : paramB k = true) (ha : wideB a = true) (hb : wideB b = true) (h : foldN a ≤ foldN b) : costI k a ≤ costI k b := by
  have hk' := paramB_iff.1 hk
  have hq : quoN k a ≤ quoN k b := Nat.div_le_div_right h
  simp only [costI, hk, ha, hb, Bool.and_self, if_true]
  split <;> split <;> omega
theorem cost_one {k a : Int} (hk : paramB k = true) (ha : wideB a = true) : 1 ≤ costI k a ∧ costI k a ≤ 65 := by
  have hk' := paramB_iff.1 hk
  simp only [costI, hk, ha, Bool.and_self, if_true]
  split <;> omega

end Go.Proofs.Ytcljnpodfhgjkaa.VG

/-! ## Rice: the laws of costs and of the best parameter. -/
namespace Go.Proofs.Ytcljnpodfhgjkaa.VG
open Go
set_option linter.unusedSimpArgs false
set_option linter.unusedVariables false
set_option maxRecDepth 20000

end Go.Proofs.Ytcljnpodfhgjkaa.VG

/-! ## Rice: what is put is got back; the laws of rows as bits. -/
namespace Go.Proofs.Ytcljnpodfhgjkaa.VG
open Go
set_option linter.unusedSimpArgs false
set_option linter.unusedVariables false
set_option maxRecDepth 20000

theorem ofB_low (u K : Nat) : ofB (toB (u % 2 ^ K) K) = u % 2 ^ K := by rw [ofB_toB, Nat.mod_mod]

theorem one_back {K : Nat} (hK : K ≤ 25) {x : Int} (hx : wideB x = true) (a c : List Bool) : oneS (packB (a ++ riceB K x ++ c)) a.length K = ((x, 0), a.length + (riceB K x).length, 0) := by
  have hf := foldN_lt x
  by_cases hq : foldN x / 2 ^ K < 32
  · have hr : riceB K x = List.replicate (foldN x / 2 ^ K) false ++ [true] ++ toB (foldN x % 2 ^ K) K := by rw [riceB, if_pos hq]
    have h1 := rUnary_pack a (toB (foldN x % 2 ^ K) K ++ c) (foldN x / 2 ^ K) 32 (by show foldN x / 2 ^ K ≤ 32; omega)
    have h2 := rGet_pack (a ++ (List.replicate (foldN x / 2 ^ K) false ++ [true])) (toB (foldN x % 2 ^ K) K) c (by rw [toB_length]; omega)
    have e1 : a ++ riceB K x ++ c = a ++ (List.replicate (foldN x / 2 ^ K) false ++ [true]) ++ (toB (foldN x % 2 ^ K) K ++ c) := by rw [hr]; simp
    have e2 : a ++ (List.replicate (foldN x / 2 ^ K) false ++ [true]) ++ toB (foldN x % 2 ^ K) K ++ c = a ++ (List.replicate (foldN x / 2 ^ K) false ++ [true]) ++ (toB (foldN x % 2 ^ K) K ++ c) := by simp
    have hm := Nat.mod_add_div (foldN x) (2 ^ K)
    rw [e2, ofB_low, toB_length] at h2
    have hlen : (riceB K x).length = foldN x / 2 ^ K + 1 + K := by rw [hr]; simp [toB_length]; omega
    rw [e1, hlen]
    generalize packB (a ++ (List.replicate (foldN x / 2 ^ K) false ++ [true]) ++ (toB (foldN x % 2 ^ K) K ++ c)) = pk at *
    have h3 : (a ++ (List.replicate (foldN x / 2 ^ K) false ++ [true])).length = a.length + foldN x / 2 ^ K + 1 := by simp; omega
    rw [h3] at h2
    have hu := unf_fold hx
    rw [Nat.mul_comm] at hm
    have hs : foldN x / 2 ^ K * 2 ^ K + foldN x % 2 ^ K = foldN x := by omega
    unfold oneS
    simp only [h1, h2, hq, if_true, hs, hu]
    simp
    omega
  · have hr : riceB K x = List.replicate 32 false ++ [true] ++ toB (foldN x) 32 := by rw [riceB, if_neg hq]
    have h1 := rUnary_pack a (toB (foldN x) 32 ++ c) 32 32 (by decide)
    have h2 := rGet_pack (a ++ (List.replicate 32 false ++ [true])) (toB (foldN x) 32) c (by rw [toB_length]; omega)
    have e1 : a ++ riceB K x ++ c = a ++ (List.replicate 32 false ++ [true]) ++ (toB (foldN x) 32 ++ c) := by rw [hr]; simp
    have e2 : a ++ (List.replicate 32 false ++ [true]) ++ toB (foldN x) 32 ++ c = a ++ (List.replicate 32 false ++ [true]) ++ (toB (foldN x) 32 ++ c) := by simp
    rw [e2, ofB_toB, toB_length, Nat.mod_eq_of_lt (by omega)] at h2
    have hlen : (riceB K x).length = 65 := by rw [hr]; simp [toB_length]
    rw [e1, hlen]
    generalize packB (a ++ (List.replicate 32 false ++ [true]) ++ (toB (foldN x) 32 ++ c)) = pk at *
    have h3 : (a ++ (List.replicate 32 false ++ [true])).length = a.length + 33 := by simp
    rw [h3] at h2
    rw [show ((32 : Nat) : Int) = 32 from rfl] at h2
    have hu := unf_fold hx
    unfold oneS
    rw [h1]
    simp only [h2, hu]
    have hb : ¬ (2147483648 ≤ foldN x ∨ foldN x / 2 ^ K < 32) := by omega
    simp only [hb]
    simp

theorem getF_back {K : Nat} (hK : K ≤ 25) : ∀ (l : List Int) (a c : List Bool) (out : List Int), allW l = true → getF (packB (a ++ riceBs K l ++ c)) K l.length a.length out = ((out ++ l, 0), a.length + (riceBs K l).length, 0)
  | [], a, c, out, _ => by simp [getF, riceBs]
  | x :: r, a, c, out, h => by
    have hx : wideB x = true := by simp [allW] at h; exact h.1
    have hr : allW r = true := by simp [allW] at h ⊢; exact h.2
    have e1 : a ++ riceBs K (x :: r) ++ c = a ++ riceB K x ++ (riceBs K r ++ c) := by simp [riceBs]
    have e2 : a ++ riceB K x ++ (riceBs K r ++ c) = (a ++ riceB K x) ++ riceBs K r ++ c := by simp
    have h1 := one_back hK hx a (riceBs K r ++ c)
    have h2 := getF_back hK r (a ++ riceB K x) c (out ++ [x]) hr
    rw [← e2] at h2
    rw [e1, List.length_cons, getF, h1, if_neg (by simp)]
    simp only [List.length_append] at h2
    rw [h2]
    simp [riceBs]
    omega

theorem getS_back {K : Nat} (hK : K ≤ 25) (l : List Int) (a c : List Bool) (h : allW l = true) (hl : l.length ≤ 4194304) : getS (packB (a ++ riceBs K l ++ c)) a.length 0 K l.length = ((l, 0), a.length + (riceBs K l).length, 0) := by
  have hp : paramB (K : Int) = true := paramB_iff.2 (by omega)
  rw [getS, hp, if_neg (by simp; omega), if_neg (by simp)]
  have := getF_back hK l a c [] h
  simpa using this

theorem riceBs_len {K : Nat} (hK : K ≤ 25) (l : List Int) (h : allW l = true) : ((riceBs K l).length : Int) = sumI K l := by
  have key : ∀ i, i ≤ l.length → ((riceBs K (l.take i)).length : Int) = sumTo K l i := by
    intro i
    induction i with
    | zero => intro _; simp [riceBs, sumTo]
    | succ i ih =>
      intro hi
      rw [riceBs_take K l i (by omega), sumTo, ← ih (by omega), ← riceB_len hK (wideB_iff.2 (allW_gi h i (by omega)))]
      simp
  have := key l.length (Nat.le_refl _)
  rwa [List.take_length] at this

end Go.Proofs.Ytcljnpodfhgjkaa.VG
