/-
  Scan: the order by digits.
-/
import Derived.Test.YtbncppklmhfnmaaNc
namespace Go.Proofs.Ytbncppklmhfnmaa.VG
open Go
set_option linter.unusedSimpArgs false
set_option linter.unusedVariables false
set_option maxRecDepth 20000

theorem or_small {a b : Nat} (ha : a < 64) (hb : b < 64) : bitw .or .i64 (a : Int) (b : Int) = ((a ||| b : Nat) : Int) := by
  have h := Nat.or_lt_two_pow (n := 6) ha hb
  rw [bitw_or (by show a < 18446744073709551616; omega) (by show b < 18446744073709551616; omega), wI (by omega) (by omega)]
theorem or_mid {a b : Nat} (ha : a < 4096) (hb : b < 4096) : bitw .or .i64 (a : Int) (b : Int) = ((a ||| b : Nat) : Int) := by
  have h := Nat.or_lt_two_pow (n := 12) ha hb
  rw [bitw_or (by show a < 18446744073709551616; omega) (by show b < 18446744073709551616; omega), wI (by omega) (by omega)]

section
variable {P : Program} {Q : Exit → Env → World → Prop} {env : Env} {w : World} {k : S}
theorem chk_s {e : E} (h : e.ok env w) (hk : k.wp P Q env w) : (S.chk e k).wp P Q env w := ⟨h, hk⟩
theorem set_s {x : Nat} {e : E} {v : Value} (h : e.ev env w = v) (hk : k.wp P Q (upd env x v) w) : (S.set x e k).wp P Q env w := by rw [wp_set, h]; exact hk
end

set_option maxHeartbeats 2000000 in
theorem digits_c {w : World} {W H' : Nat} (hW : 1 ≤ W ∧ W ≤ 64) (hH : 1 ≤ H' ∧ H' ≤ 64) (M : Nat) (hM : M = 4096) : Calls Try.prog 28 [.int .i64 W, .int .i64 H'].toArray w (Ret fun r w' => OwnRow w w' r (digL W H' M)) := by
  refine F_sound c28 (by simp [fc28]) ?_
  simp [fc28, s28]
  have H := (Hp.nil w).nilS (e := 3) (size := 1)
  refine for_r M (fun n env' w' => env' 0 = .int .i64 W ∧ env' 1 = .int .i64 H' ∧ env' 10 = .int .i64 n ∧ OwnRow w w' (env' 5) (digL W H' n)) ?_ ?_ ?_
  · simp [digL, pik, OwnRow]
    simpa using H
  · rintro n env w1 hn ⟨e0, e1, e10, H⟩
    have wn : IntKind.i64.wrap ((n : Int) + 1) = ((n + 1 : Nat) : Int) := by rw [wI (by omega) (by omega)]; omega
    simp [e10]
    refine ite_r (t := true) (by simp; omega) (fun _ => ?_) (fun h => by cases h)
    rw [wp_nil, thn_normal, wp_blk]
    simp
    generalize hrv : env 5 = rv at *
    refine for_r 6 (fun i env' w' => env' 0 = .int .i64 W ∧ env' 1 = .int .i64 H' ∧ env' 10 = .int .i64 n ∧ env' 5 = rv ∧ env' 6 = .int .i64 n ∧ env' 13 = .int .i64 i ∧ env' 7 = .int .i64 (dxT n i) ∧ env' 8 = .int .i64 (dyT n i) ∧ w' = w1) ?_ ?_ ?_
    · simp [e0, e1, e10, hrv, dxT, dyT]
    · rintro i env _ hi ⟨e0, e1, e10, e5, e6, e13, e7, e8, rfl⟩
      have wi : IntKind.i64.wrap ((i : Int) + 1) = ((i + 1 : Nat) : Int) := by rw [wI (by omega) (by omega)]; omega
      obtain ⟨k2, hk2⟩ : ∃ k, k = 2 * i := ⟨_, rfl⟩
      obtain ⟨k3, hk3⟩ : ∃ k, k = 2 * i + 1 := ⟨_, rfl⟩
      have w2 : IntKind.i64.wrap (2 * (i : Int)) = (k2 : Int) := by rw [wI (by omega) (by omega)]; omega
      have w3 : IntKind.i64.wrap ((k2 : Int) + 1) = (k3 : Int) := by rw [wI (by omega) (by omega)]; omega
      obtain ⟨s2, hs2⟩ : ∃ k, k = n / 2 ^ k2 := ⟨_, rfl⟩
      obtain ⟨s3, hs3⟩ : ∃ k, k = n / 2 ^ k3 := ⟨_, rfl⟩
      have f2 : shr .i64 (n : Int) (k2 : Int) = (s2 : Int) := by rw [hs2]; exact shr_nat .i64 n k2 (by show k2 ≤ 64; omega)
      have f3 : shr .i64 (n : Int) (k3 : Int) = (s3 : Int) := by rw [hs3]; exact shr_nat .i64 n k3 (by show k3 ≤ 64; omega)
      have l2 : s2 < 4096 := by have := Nat.div_le_self n (2 ^ k2); omega
      have l3 : s3 < 4096 := by have := Nat.div_le_self n (2 ^ k3); omega
      obtain ⟨b2, hb2⟩ : ∃ k, k = s2 % 2 := ⟨_, rfl⟩
      obtain ⟨b3, hb3⟩ : ∃ k, k = s3 % 2 := ⟨_, rfl⟩
      have g2 : bitw .and .i64 (s2 : Int) 1 = (b2 : Int) := by rw [hb2]; exact bitw_and1 (by show s2 < 18446744073709551616; omega)
      have g3 : bitw .and .i64 (s3 : Int) 1 = (b3 : Int) := by rw [hb3]; exact bitw_and1 (by show s3 < 18446744073709551616; omega)
      have hp : 2 ^ i ≤ 2 ^ 5 := Nat.pow_le_pow_right (by omega) (by omega)
      obtain ⟨q2, hq2⟩ : ∃ k, k = b2 * 2 ^ i := ⟨_, rfl⟩
      obtain ⟨q3, hq3⟩ : ∃ k, k = b3 * 2 ^ i := ⟨_, rfl⟩
      have m2 : q2 ≤ 32 := by rw [hq2]; exact Nat.le_trans (Nat.mul_le_mul (show b2 ≤ 1 by omega) hp) (by omega)
      have m3 : q3 ≤ 32 := by rw [hq3]; exact Nat.le_trans (Nat.mul_le_mul (show b3 ≤ 1 by omega) hp) (by omega)
      have h2 : shl .i64 (b2 : Int) (i : Int) = (q2 : Int) := by rw [shl_nat .i64 b2 i (by show i ≤ 64; omega), ← hq2, wI (by omega) (by omega)]
      have h3 : shl .i64 (b3 : Int) (i : Int) = (q3 : Int) := by rw [shl_nat .i64 b3 i (by show i ≤ 64; omega), ← hq3, wI (by omega) (by omega)]
      have lx : dxT n i < 64 := Nat.lt_of_lt_of_le (dxT_lt n i) (by have : 2 ^ i ≤ 2 ^ 6 := Nat.pow_le_pow_right (by omega) (by omega); omega)
      have ly : dyT n i < 64 := Nat.lt_of_lt_of_le (dyT_lt n i) (by have : 2 ^ i ≤ 2 ^ 6 := Nat.pow_le_pow_right (by omega) (by omega); omega)
      have o2 := or_small lx (show q2 < 64 by omega)
      have o3 := or_small ly (show q3 < 64 by omega)
      have x2 : dxT n (i + 1) = dxT n i ||| q2 := by rw [dxT, hq2, hb2, hs2, hk2]
      have x3 : dyT n (i + 1) = dyT n i ||| q3 := by rw [dyT, hq3, hb3, hs3, hk3]
      simp [e13]
      refine ite_r (t := true) (by simp; omega) (fun _ => ?_) (fun h => by cases h)
      rw [wp_nil, thn_normal, wp_blk]
      refine set_s (v := .int .i64 i) (by simp [e13]) ?_
      refine chk_s (by simp) ?_
      refine chk_s (by simp [e6, e7, w2]; try omega) ?_
      refine chk_s (by simp [e6, e7, w2]; try omega) ?_
      refine chk_s (by simp [e6, e7, w2]; try omega) ?_
      refine set_s (v := .int .i64 (dxT n (i + 1))) (by simp [e6, e7, w2, f2, g2, h2, o2, x2]) ?_
      refine chk_s (by simp) ?_
      refine chk_s (by simp [e6, w2, w3]; try omega) ?_
      refine chk_s (by simp [e6, e8, w2]; try omega) ?_
      refine chk_s (by simp [e6, e8, w2]; try omega) ?_
      refine set_s (v := .int .i64 (dyT n (i + 1))) (by simp [e6, e8, w2, w3, f3, g3, h3, o3, x3]) ?_
      simp [e0, e1, e10, e5, e6, e13, wi, -Int.natCast_add]
      omega
    · rintro env _ ⟨e0, e1, e10, e5, e6, e13, e7, e8, rfl⟩
      simp [e13]
      refine ite_r (t := false) (by simp) (fun h => by cases h) (fun _ => ?_)
      have lx : dxT n 6 < 64 := dxT_lt n 6
      have ly : dyT n 6 < 64 := dyT_lt n 6
      have hl := pik_len (inP W H') (fun n => dyT n 6 * W + dxT n 6) n
      simp [e0, e1, e7, e8]
      refine ite_cut (fun env' w' => env' 0 = .int .i64 W ∧ env' 1 = .int .i64 H' ∧ env' 10 = .int .i64 n ∧ OwnRow w w' (env' 5) (digL W H' (n + 1))) (t := inP W H' n) ?_ ?_ ?_ ?_
      · simp [inP]
      · intro ht
        have hd : digL W H' (n + 1) = digL W H' n ++ [((dyT n 6 * W + dxT n 6 : Nat) : Int)] := pik_yes ht
        have hyW : dyT n 6 * W ≤ 63 * 64 := Nat.mul_le_mul (by omega) (by omega)
        obtain ⟨yW, hyw⟩ : ∃ k, k = dyT n 6 * W := ⟨_, rfl⟩
        have ey : (dyT n 6 : Int) * (W : Int) = (yW : Int) := by rw [hyw, Int.natCast_mul]
        have wyW : IntKind.i64.wrap (yW : Int) = (yW : Int) := wI (by omega) (by omega)
        obtain ⟨z, hz⟩ : ∃ k, k = yW + dxT n 6 := ⟨_, rfl⟩
        have wv : IntKind.i64.wrap ((yW : Int) + dxT n 6) = (z : Int) := by rw [wI (by omega) (by omega)]; omega
        rw [← hyw, ← hz] at hd
        have hlen : (digL W H' n).length ≤ n := hl
        unfold OwnRow at H
        simp [e0, e7, e8, ey, wyW, wv]
        refine app1_h slTI 0 H rfl (u := .int .i64 (z : Int)) (by simp) (by omega) (by unfold maxLen; omega) (by simp [e0, e7, e8, ey, wyW, wv]) (by simp [e5]) (by simp) (by simp) ?_
        intro vb v' w5 w6 H
        refine ⟨.inl rfl, ?_⟩
        simp [e0, e1, e10]
        simp only [List.set_cons_zero] at H
        rw [intsV_snoc, ← hd] at H
        unfold OwnRow
        rw [hd]
        rw [hd] at H
        simpa using H
      · intro ht
        have hd : digL W H' (n + 1) = digL W H' n := pik_no ht
        simp [e0, e1, e10, e5, hd]
        exact H
      · rintro env w2 ⟨e0, e1, e10, H⟩
        simp [e0, e1, e10, wn, -Int.natCast_add]
        exact ⟨by omega, H⟩
  · rintro env w1 ⟨e0, e1, e10, H⟩
    simp [e10]
    refine ite_r (t := false) (by simp; omega) (fun h => by cases h) (fun _ => ?_)
    simp
    exact H

end Go.Proofs.Ytbncppklmhfnmaa.VG
