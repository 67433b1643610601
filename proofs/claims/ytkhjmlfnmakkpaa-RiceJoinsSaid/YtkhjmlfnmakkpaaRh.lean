/-
  Rice: what is put is got back; the laws of rows as bits.
-/
import Derived.Test.YtkhjmlfnmakkpaaRg
import Derived.Test.YtkhjmlfnmakkpaaBl
namespace Go.Proofs.Ytkhjmlfnmakkpaa.VG
open Go
set_option linter.unusedSimpArgs false
set_option linter.unusedVariables false

theorem ofB_low (u K : Nat) : ofB (toB (u % 2 ^ K) K) = u % 2 ^ K := by rw [ofB_toB, Nat.mod_mod]

theorem one_back {K : Nat} (hK : K ≤ 25) {x : Int} (hx : wideB x = true) (a c : List Bool) : oneS (packB (a ++ riceB K x ++ c)) a.length K = ((x, 0), a.length + (riceB K x).length, 0) := by
  have hf := foldN_lt x
  by_cases hq : foldN x / 2 ^ K < 32
  · have hr : riceB K x = List.replicate (foldN x / 2 ^ K) false ++ [true] ++ toB (foldN x % 2 ^ K) K := by rw [riceB, if_pos hq]
    have h1 := rUnary_pack a (toB (foldN x % 2 ^ K) K ++ c) (foldN x / 2 ^ K) 32 (by show foldN x / 2 ^ K ≤ 32; omega)
    have h2 := rGet_pack (a ++ (List.replicate (foldN x / 2 ^ K) false ++ [true])) (toB (foldN x % 2 ^ K) K) c (by rw [toB_length]; omega)
    have e1 : a ++ riceB K x ++ c = a ++ (List.replicate (foldN x / 2 ^ K) false ++ [true]) ++ (toB (foldN x % 2 ^ K) K ++ c) := by rw [hr]; simp
    have e2 : a ++ (List.replicate (foldN x / 2 ^ K) false ++ [true]) ++ toB (foldN x % 2 ^ K) K ++ c = a ++ (List.replicate (foldN x / 2 ^ K) false ++ [true]) ++ (toB (foldN x % 2 ^ K) K ++ c) := by simp
    have hm := Nat.mod_add_div (foldN x) (2 ^ K)
    rw [e2, ofB_low, toB_length] at h2
    have hlen : (riceB K x).length = foldN x / 2 ^ K + 1 + K := by rw [hr]; simp [toB_length]; omega
    rw [e1, hlen]
    generalize packB (a ++ (List.replicate (foldN x / 2 ^ K) false ++ [true]) ++ (toB (foldN x % 2 ^ K) K ++ c)) = pk at *
    have h3 : (a ++ (List.replicate (foldN x / 2 ^ K) false ++ [true])).length = a.length + foldN x / 2 ^ K + 1 := by simp; omega
    rw [h3] at h2
    have hu := unf_fold hx
    rw [Nat.mul_comm] at hm
    have hs : foldN x / 2 ^ K * 2 ^ K + foldN x % 2 ^ K = foldN x := by omega
    unfold oneS
    simp only [h1, h2, hq, if_true, hs, hu]
    simp
    omega
  · have hr : riceB K x = List.replicate 32 false ++ [true] ++ toB (foldN x) 32 := by rw [riceB, if_neg hq]
    have h1 := rUnary_pack a (toB (foldN x) 32 ++ c) 32 32 (by decide)
    have h2 := rGet_pack (a ++ (List.replicate 32 false ++ [true])) (toB (foldN x) 32) c (by rw [toB_length]; omega)
    have e1 : a ++ riceB K x ++ c = a ++ (List.replicate 32 false ++ [true]) ++ (toB (foldN x) 32 ++ c) := by rw [hr]; simp
    have e2 : a ++ (List.replicate 32 false ++ [true]) ++ toB (foldN x) 32 ++ c = a ++ (List.replicate 32 false ++ [true]) ++ (toB (foldN x) 32 ++ c) := by simp
    rw [e2, ofB_toB, toB_length, Nat.mod_eq_of_lt (by omega)] at h2
    have hlen : (riceB K x).length = 65 := by rw [hr]; simp [toB_length]
    rw [e1, hlen]
    generalize packB (a ++ (List.replicate 32 false ++ [true]) ++ (toB (foldN x) 32 ++ c)) = pk at *
    have h3 : (a ++ (List.replicate 32 false ++ [true])).length = a.length + 33 := by simp
    rw [h3] at h2
    rw [show ((32 : Nat) : Int) = 32 from rfl] at h2
    have hu := unf_fold hx
    unfold oneS
    rw [h1]
    simp only [h2, hu]
    have hb : ¬ (2147483648 ≤ foldN x ∨ foldN x / 2 ^ K < 32) := by omega
    simp only [hb]
    simp

theorem getF_back {K : Nat} (hK : K ≤ 25) : ∀ (l : List Int) (a c : List Bool) (out : List Int), allW l = true → getF (packB (a ++ riceBs K l ++ c)) K l.length a.length out = ((out ++ l, 0), a.length + (riceBs K l).length, 0)
  | [], a, c, out, _ => by simp [getF, riceBs]
  | x :: r, a, c, out, h => by
    have hx : wideB x = true := by simp [allW] at h; exact h.1
    have hr : allW r = true := by simp [allW] at h ⊢; exact h.2
    have e1 : a ++ riceBs K (x :: r) ++ c = a ++ riceB K x ++ (riceBs K r ++ c) := by simp [riceBs]
    have e2 : a ++ riceB K x ++ (riceBs K r ++ c) = (a ++ riceB K x) ++ riceBs K r ++ c := by simp
    have h1 := one_back hK hx a (riceBs K r ++ c)
    have h2 := getF_back hK r (a ++ riceB K x) c (out ++ [x]) hr
    rw [← e2] at h2
    rw [e1, List.length_cons, getF, h1, if_neg (by simp)]
    simp only [List.length_append] at h2
    rw [h2]
    simp [riceBs]
    omega

theorem getS_back {K : Nat} (hK : K ≤ 25) (l : List Int) (a c : List Bool) (h : allW l = true) (hl : l.length ≤ 4194304) : getS (packB (a ++ riceBs K l ++ c)) a.length 0 K l.length = ((l, 0), a.length + (riceBs K l).length, 0) := by
  have hp : paramB (K : Int) = true := paramB_iff.2 (by omega)
  rw [getS, hp, if_neg (by simp; omega), if_neg (by simp)]
  have := getF_back hK l a c [] h
  simpa using this

theorem riceBs_len {K : Nat} (hK : K ≤ 25) (l : List Int) (h : allW l = true) : ((riceBs K l).length : Int) = sumI K l := by
  have key : ∀ i, i ≤ l.length → ((riceBs K (l.take i)).length : Int) = sumTo K l i := by
    intro i
    induction i with
    | zero => intro _; simp [riceBs, sumTo]
    | succ i ih =>
      intro hi
      rw [riceBs_take K l i (by omega), sumTo, ← ih (by omega), ← riceB_len hK (wideB_iff.2 (allW_gi h i (by omega)))]
      simp
  have := key l.length (Nat.le_refl _)
  rwa [List.take_length] at this

theorem and_u (v j : Nat) (hv : v < 18446744073709551616) (hj : j < 64) : bitw .and .u64 (v : Int) ((2 ^ j - 1 : Nat) : Int) = ((v % 2 ^ j : Nat) : Int) := by
  have h2 : 2 ^ j ≤ 2 ^ 63 := Nat.pow_le_pow_right (by omega) (by omega)
  have h3 := Nat.mod_lt v (Nat.two_pow_pos j)
  rw [bitw_and (by simp only [IntKind.bits]; omega) (by simp only [IntKind.bits]; omega), Nat.and_two_pow_sub_one_eq_mod]
  exact wrap_nat_u64 (by omega)

set_option maxHeartbeats 1000000 in
theorem rputs_c {w : World} {v : Value} {l : List Int} (k n : Int) (h : Rd (fun b => b < w.heap.size) w v l.length (intsV l)) : Calls Try.prog 3 [.int .i64 k, v, .int .i64 n].toArray w (Ret fun r w' => r = .bool true ∧ Mod none' w w') := by
  refine F_sound c3 (by simp [fc3]) ?_
  obtain ⟨hS, hL⟩ := h.sl
  simp [fc3, s3]
  refine callm rknown_c (by simp) ?_
  intro w1 M1
  have H := Hp.ofMod M1
  simp
  refine ite_r (t := false) (by simp) (fun h => by cases h) (fun _ => ?_)
  simp [hS, hL]
  by_cases hbig : 200 < l.length
  · refine ite_r (t := true) (by simp; omega) (fun _ => ?_) (fun h => by cases h)
    simp
    exact M1
  refine ite_r (t := false) (by simp; omega) (fun h => by cases h) (fun _ => ?_)
  simp
  refine wrbox_h H (by simp) ?_
  intro b w2 H M2
  refine ⟨.inl rfl, ?_⟩
  simp
  refine xrbox_h H (by simp) ?_
  intro c w3 H M3
  refine ⟨.inl rfl, ?_⟩
  simp
  obtain ⟨N, hN, hN2⟩ := and_nat n 3 (by omega)
  simp at hN hN2
  have hp0 := Nat.two_pow_pos N
  obtain ⟨FW, hW, hFW, upW, rdW⟩ := H.wr 0 rfl
  refine call_h (put_yes hW 0 N (by omega) hp0 (by simp; omega)) (by simp (disch := omega) [wI, wU, tmod_nn, tdiv_nn, env0_0, env0_1, env0_2, env0_3, env0_4, env0_5, -env0_apply, hN]) ?_
  rintro r wW ⟨rfl, AW⟩
  replace H := upW _ _ AW
  simp
  obtain ⟨FW, hW, hFW, upW, rdW⟩ := H.xr 1 rfl
  refine call_h (xput_yes hW 0 N (by omega) hp0 (by simp; omega)) (by simp (disch := omega) [wI, wU, tmod_nn, tdiv_nn, env0_0, env0_1, env0_2, env0_3, env0_4, env0_5, -env0_apply, hN]) ?_
  rintro r wW ⟨rfl, AW⟩
  replace H := upW _ _ AW
  rw [show ([] : List Bool) ++ toB 0 N = toB 0 N from rfl] at H
  have hl0 : (toB 0 N).length = N := toB_length 0 N
  generalize toB 0 N = z at *
  simp
  by_cases hok : paramB k = true ∧ allW l = true
  · obtain ⟨hk, ha⟩ := hok
    have hk' := paramB_iff.1 hk
    obtain ⟨K, rfl⟩ : ∃ K : Nat, k = K := ⟨k.toNat, by omega⟩
    obtain ⟨FW, hW, hFW, upW, rdW⟩ := H.wr 0 rfl
    refine call_h (rput_yes hW (h.at H.mod) hFW (by omega) (by omega) K (by omega) ha) (by simp (disch := omega) [wI, wU, tmod_nn, tdiv_nn, env0_0, env0_1, env0_2, env0_3, env0_4, env0_5, -env0_apply]) ?_
    rintro r wW ⟨rfl, AW⟩
    replace H := upW _ _ AW
    simp
    obtain ⟨FW, hW, hFW, upW, rdW⟩ := H.xr 1 rfl
    refine call_h (xrput_yes hW (h.at H.mod) hFW (by omega) (by omega) K (by omega) ha) (by simp (disch := omega) [wI, wU, tmod_nn, tdiv_nn, env0_0, env0_1, env0_2, env0_3, env0_4, env0_5, -env0_apply]) ?_
    rintro r wW ⟨rfl, AW⟩
    replace H := upW _ _ AW
    have hle := riceBs_le (show K ≤ 25 by omega) l
    simp at H
    have hlz : (z ++ riceBs K l).length ≤ 100000 := by simp; omega
    generalize z ++ riceBs K l = zz at *
    simp
    refine ifg_r (t := true) (by simp) (fun _ => ?_) (fun h => (h rfl).elim)
    obtain ⟨FW, hW, _⟩ := H.wr 0 rfl
    refine callp (len_c hW) (by simp) ?_
    simp
    refine ifg_r (t := true) (by simp) (fun _ => ?_) (fun h => (h rfl).elim)
    obtain ⟨FX, hX, _⟩ := H.xr 1 rfl
    refine callp (xlen_c hX) (by simp) ?_
    simp
    refine ifg_r (t := true) (by simp) (fun _ => ?_) (fun h => (h rfl).elim)
    obtain ⟨FW, hW, _⟩ := H.wr 0 rfl
    refine call_h (bytes_c hW (by omega)) (by simp) ?_
    intro vb w4 A
    replace H := H.newBytes A
    simp
    refine ifg_r (t := true) (by simp) (fun _ => ?_) (fun h => (h rfl).elim)
    obtain ⟨FX, hX, _⟩ := H.xr 1 rfl
    refine call_h (xbytes_c hX (by omega)) (by simp) ?_
    intro vc w5 A
    replace H := H.newBytes A
    simp
    refine ifg_r (t := true) (by simp) (fun _ => ?_) (fun h => (h rfl).elim)
    refine callp (same_c (H.rd 2 rfl) (H.rd 3 rfl) (packB_fits _) (packB_fits _)) (by simp) ?_
    simp
    exact H.mod
  · have hno : paramB k = false ∨ allW l = false := by
      rcases Bool.eq_false_or_eq_true (paramB k) with h1 | h1
      · rcases Bool.eq_false_or_eq_true (allW l) with h2 | h2
        · exact absurd ⟨h1, h2⟩ hok
        · exact .inr h2
      · exact .inl h1
    refine callp (rput_no (b := b) (h.at H.mod) (by omega) k hno) (by simp) ?_
    refine callp (xrput_no (b := c) (h.at H.mod) (by omega) k hno) (by simp) ?_
    simp at H
    simp
    refine ifg_r (t := true) (by simp) (fun _ => ?_) (fun h => (h rfl).elim)
    obtain ⟨FW, hW, _⟩ := H.wr 0 rfl
    refine callp (len_c hW) (by simp) ?_
    simp
    refine ifg_r (t := true) (by simp) (fun _ => ?_) (fun h => (h rfl).elim)
    obtain ⟨FX, hX, _⟩ := H.xr 1 rfl
    refine callp (xlen_c hX) (by simp) ?_
    simp
    refine ifg_r (t := true) (by simp) (fun _ => ?_) (fun h => (h rfl).elim)
    obtain ⟨FW, hW, _⟩ := H.wr 0 rfl
    refine call_h (bytes_c hW (by omega)) (by simp) ?_
    intro vb w4 A
    replace H := H.newBytes A
    simp
    refine ifg_r (t := true) (by simp) (fun _ => ?_) (fun h => (h rfl).elim)
    obtain ⟨FX, hX, _⟩ := H.xr 1 rfl
    refine call_h (xbytes_c hX (by omega)) (by simp) ?_
    intro vc w5 A
    replace H := H.newBytes A
    simp
    refine ifg_r (t := true) (by simp) (fun _ => ?_) (fun h => (h rfl).elim)
    refine callp (same_c (H.rd 2 rfl) (H.rd 3 rfl) (packB_fits _) (packB_fits _)) (by simp) ?_
    simp
    exact H.mod

end Go.Proofs.Ytkhjmlfnmakkpaa.VG
