/-
  Guesses: the law of the least weight.
-/
import Derived.Test.YtifdamadeleigaaGi
namespace Go.Proofs.Ytifdamadeleigaa.VG
open Go
set_option linter.unusedSimpArgs false
set_option linter.unusedVariables false

theorem set_all {f : Int → Bool} {l : List Int} (h : l.all f = true) (i : Nat) {v : Int} (hv : f v = true) : (l.set i v).all f = true := by
  rw [List.all_eq_true] at *
  intro x hx
  rcases List.mem_or_eq_of_mem_set hx with hx | rfl
  · exact h x hx
  · exact hv
theorem intsV_set (l : List Int) (i : Nat) (v : Int) : (intsV l).set i (.int .i64 v) = intsV (l.set i v) := by simp [intsV, List.map_set]

set_option maxHeartbeats 4000000 in
theorem gleast_law {w : World} {tv : Value} {t : List Int} (kind : Int) (ht : Rd (fun k => k < w.heap.size) w tv t.length (intsV t)) (hm : t.length ≤ maxLen) :
    Calls Try.prog 6 [tv, .int .i64 kind].toArray w (Ret fun r w' => r = .bool true ∧ Mod none' w w') := by
  refine F_sound c6 (by simp [fc6]) ?_
  simp [fc6, s6]
  refine call_h (tnew_c t.length ht.cells1) (by simp) ?_
  rintro r w1 ⟨b, rfl, H⟩
  simp
  obtain ⟨hT, hlow, upR, up⟩ := H.tp 0 rfl
  have hg : ¬ (b < w.heap.size) := by omega
  refine call_h (next_c hT (ht.at H.mod) hg hm 20 (by omega)) (by simp) ?_
  rintro r w2 ⟨a, rfl, a0, a1, A⟩
  replace H := up _ A
  replace a1 := a1 (by omega)
  obtain ⟨W, hW⟩ : ∃ W : Nat, 1 + a = W := ⟨(1 + a).toNat, by omega⟩
  have wW : IntKind.i64.wrap (1 + a) = W := by rw [wI (by omega) (by omega), hW]
  simp [wW]
  obtain ⟨hT, _, upR, up⟩ := H.tp 0 rfl
  refine call_h (next_c hT (ht.at H.mod) hg hm 20 (by omega)) (by simp) ?_
  rintro r w3 ⟨c, rfl, c0, c1, A⟩
  replace H := up _ A
  replace c1 := c1 (by omega)
  obtain ⟨H', hH⟩ : ∃ H' : Nat, 1 + c = H' := ⟨(1 + c).toNat, by omega⟩
  have wH : IntKind.i64.wrap (1 + c) = H' := by rw [wI (by omega) (by omega), hH]
  simp [wW, wH]
  obtain ⟨hT, _, upR, up⟩ := H.tp 0 rfl
  refine call_h (depth_c hT (ht.at H.mod) hg hm (fun k hk => by have := H.mod.size; omega)) (by simp) ?_
  rintro r w4 ⟨d, rfl, hd, A⟩
  replace H := up _ A
  simp [wW, wH]
  obtain ⟨hT, _, upR, up⟩ := H.tp 0 rfl
  refine call_h (plane_c hT (ht.at H.mod) hg hm (fun k hk => by have := H.mod.size; omega) W H' d (by omega) (by omega) (by omega) hd) (by simp) ?_
  rintro pv w5 ⟨p, hpl, A, hs⟩
  replace H := upR _ _ A hs
  simp
  have hln := hpl.1
  have hmm : W * H' ≤ 20 * 20 := Nat.mul_le_mul (by omega) (by omega)
  have hpp := pl_plane hpl (by omega) (by omega) hd
  obtain ⟨_, _, _, _, hall⟩ := planeB_iff.1 hpp
  have hbs : bestS p W H' d = bstKs p W d 9 H' := by rw [bestS, if_pos hpp]; rfl
  have hp5 : Rd (fun _ => True) w5 pv p.length (intsV p) := by rw [hln]; exact (H.rd 1 rfl).top
  refine call_h (gbest_c W H' d hp5 (by omega)) (by simp) ?_
  rw [hbs]
  intro kv w6 HR
  replace H := H.join HR
  simp only [bstKs_len] at H
  obtain ⟨hT, _, upR, up⟩ := H.tp 0 rfl
  refine call_h (tkinds_c hT (ht.at H.mod) hg hm H' (by omega)) (by simp) ?_
  rintro ov w7 ⟨os, hk1, hk2, A, hs⟩
  replace H := upR _ _ A hs
  obtain ⟨oS, oL⟩ := (H.rd 3 rfl).sl
  rw [hk1] at H
  replace H : Hp w w7 [.tp b tv t.length, .own 3 1 pv (W * H') (intsV p), .own 3 1 kv H' (intsV (bstKs p W d 9 H')), .own 3 1 ov H' (intsV os)] := H
  rw [hk1] at oL
  simp
  refine for_r H' (fun i env' w' => env' 1 = .int .i64 kind ∧ env' 5 = .pointer (some ⟨b, 0, none⟩) ∧ env' 6 = .int .i64 W ∧ env' 7 = .int .i64 H' ∧ env' 8 = .int .i64 d ∧ env' 9 = pv ∧ env' 10 = kv ∧ env' 11 = ov ∧ env' 12 = .int .i64 i ∧
    ∃ os : List Int, os.length = H' ∧ os.all kindB = true ∧ Hp w w' [.tp b tv t.length, .own 3 1 pv (W * H') (intsV p), .own 3 1 kv H' (intsV (bstKs p W d 9 H')), .own 3 1 ov H' (intsV os)]) ?_ ?_ ?_
  · simp
    exact ⟨os, hk1, by simpa using hk2, H⟩
  · rintro i env w' hi ⟨e1, e5, e6, e7, e8, e9, e10, e11, e12, os, hk1, hk2, H⟩
    simp [e11, e12, oS, oL]
    refine ite_r (t := true) (by simp; omega) (fun _ => ?_) (fun h => by cases h)
    simp [wp_blk]
    obtain ⟨hT, _, upR, up⟩ := H.tp 0 rfl
    refine call_h (next_c hT (ht.at H.mod) hg hm 2 (by omega)) (by simp [e5]) ?_
    rintro r w8 ⟨x, rfl, x0, x1, A⟩
    replace H := up _ A
    have hw1 : IntKind.i64.wrap ((i : Int) + 1) = ((i + 1 : Nat) : Int) := by rw [wI (by omega) (by omega)]; omega
    simp
    by_cases hx : x = 0
    · refine ite_r (t := true) (by simp [hx]) (fun _ => ?_) (fun h => by cases h)
      refine callp (within_c kind 0 9 (by omega) (by omega) (by omega)) (by simp [e1]) ?_
      have hkb := with_bd (n := kind) (lo := 0) (hi := 9) (by omega)
      have hpr := (H.rd 3 rfl).ptr (by simp [intsV]; omega)
      simp [e11, e12, oS, oL, hi, hpr.1]
      refine set_h 3 H rfl (i := i) (u := .int .i64 (withI kind 0 9)) hi (by simp [e11, e12, oS, oL, hi, hpr.1]) (by simp) (by simp) ?_
      intro w9 H
      refine ⟨.inl rfl, ?_⟩
      simp [-Int.natCast_add, hw1, e1, e5, e6, e7, e8, e9, e10, e11, e12]
      refine ⟨by omega, os.set i (withI kind 0 9), by simpa using hk1, ?_, ?_⟩
      · have := set_all hk2 i (kindB_iff.2 hkb)
        simpa using this
      · rw [← intsV_set]
        exact H
    · refine ite_r (t := false) (by simp [hx]) (fun h => by cases h) (fun _ => ?_)
      simp [-Int.natCast_add, hw1, e1, e5, e6, e7, e8, e9, e10, e11, e12]
      exact ⟨by omega, os, hk1, by simpa using hk2, H⟩
  · rintro env w' ⟨e1, e5, e6, e7, e8, e9, e10, e11, e12, os, hk1, hk2, H⟩
    simp [e11, e12, oS, oL]
    refine ite_r (t := false) (by simp) (fun h => by cases h) (fun _ => ?_)
    have hkb := kinds_ok' (bstKs_len p W d 9 H') (bstKs_kinds p W d H')
    have hkk := kinds_ok' hk1 hk2
    have hpr : Rd (fun _ => True) w' pv p.length (intsV p) := by rw [hln]; exact (H.rd 1 rfl).top
    have hkr : Rd (fun _ => True) w' kv (bstKs p W d 9 H').length (intsV (bstKs p W d 9 H')) := by rw [bstKs_len]; exact (H.rd 2 rfl).top
    have ef1 : foreS p W H' d (bstKs p W d 9 H') = (foreTo p W d (bstKs p W d 9 H') p.length, 0) := by rw [foreS, if_pos ⟨hpp, hkb⟩]; rfl
    have ef2 : foreS p W H' d os = (foreTo p W d os p.length, 0) := by rw [foreS, if_pos ⟨hpp, hkk⟩]; rfl
    refine call_h (fore_c W H' d hpr hkr (by omega) (by rw [bstKs_len]; omega)) (by simp [e6, e7, e8, e9, e10]) ?_
    rw [ef1]
    rintro r w8 ⟨u1, rfl, HR⟩
    replace H := H.join HR
    simp only [foreTo_len] at H
    simp
    have hpr : Rd (fun _ => True) w8 pv p.length (intsV p) := by rw [hln]; exact (H.rd 1 rfl).top
    have hor : Rd (fun _ => True) w8 ov os.length (intsV os) := by rw [hk1]; exact (H.rd 3 rfl).top
    refine call_h (fore_c W H' d hpr hor (by omega) (by omega)) (by simp [e6, e7, e8, e9, e11]) ?_
    rw [ef2]
    rintro r w9 ⟨u2, rfl, HR⟩
    replace H := H.join HR
    simp only [foreTo_len] at H
    have m1 : (W : Int) * (H' : Int) = ((W * H' : Nat) : Int) := by rw [Int.natCast_mul]
    have w1 : IntKind.i64.wrap ((W * H' : Nat) : Int) = ((W * H' : Nat) : Int) := wI (by omega) (by omega)
    obtain ⟨s1, l1, c1⟩ := (H.rc 4 rfl).sl
    obtain ⟨s2, l2, c2⟩ := (H.rc 5 rfl).sl
    simp [-Int.natCast_mul, e6, e7, m1, w1, s1, l1, s2, l2, hln]
    refine ite_r (t := false) (by simp [-Int.natCast_mul, hln]) (fun h => by cases h) (fun _ => ?_)
    simp
    refine for_r H' (fun y env' w' => env' 6 = .int .i64 W ∧ env' 7 = .int .i64 H' ∧ env' 8 = .int .i64 d ∧ env' 13 = u1 ∧ env' 15 = u2 ∧ env' 17 = .int .i64 y ∧ Mod none' w9 w') ?_ ?_ ?_
    · simp [e6, e7, e8]
      exact Mod.refl _ _
    · rintro y env w' hy ⟨f6, f7, f8, f13, f15, f17, M⟩
      simp [f7, f17]
      refine ite_r (t := true) (by simp; omega) (fun _ => ?_) (fun h => by cases h)
      have H2 := (H.same M).drew
      have hyW : (y + 1) * W ≤ H' * W := Nat.mul_le_mul_right W (by omega)
      have hyW2 : (y + 1) * W ≤ p.length := by rw [hln, Nat.mul_comm W H']; exact hyW
      have hyW3 : y * W ≤ (y + 1) * W := Nat.mul_le_mul_right W (by omega)
      have hsub : (y + 1) * W - y * W = W := by rw [Nat.succ_mul]; omega
      have m2 : (y : Int) * (W : Int) = ((y * W : Nat) : Int) := by rw [Int.natCast_mul]
      have m3 : ((y + 1 : Nat) : Int) * (W : Int) = (((y + 1) * W : Nat) : Int) := by rw [Int.natCast_mul]
      have hw1 : IntKind.i64.wrap ((y : Int) + 1) = ((y + 1 : Nat) : Int) := by rw [wI (by omega) (by omega)]; omega
      have w2 : IntKind.i64.wrap ((y * W : Nat) : Int) = ((y * W : Nat) : Int) := wI (by omega) (by omega)
      have w3 : IntKind.i64.wrap (((y + 1) * W : Nat) : Int) = (((y + 1) * W : Nat) : Int) := wI (by omega) (by omega)
      have hcut1 := (H2.rc 4 rfl).cut (y * W) ((y + 1) * W) hyW3 hyW2
      have hcut2 := (H2.rc 5 rfl).cut (y * W) ((y + 1) * W) hyW3 hyW2
      rw [intsV_cut, fore_row p (by omega) d _ y _ hyW2, hsub] at hcut1 hcut2
      rw [bstKs_gi p W d 9 H' y hy] at hcut1
      have hko : 0 ≤ gi os y ∧ gi os y ≤ 9 := by
        rw [List.all_eq_true] at hk2
        exact kindB_iff.1 (hk2 _ (gi_mem os y (by omega)))
      obtain ⟨q1, q2, q3⟩ := bstK_least p W d y 9
      have q4 := q3 (gi os y).toNat (by omega)
      have q5 : rowW p W d y (gi os y).toNat = wtI (rowTo p W d (gi os y) y W) d := by
        unfold rowW
        rw [show (((gi os y).toNat : Nat) : Int) = gi os y by omega]
      rw [q1, q5] at q4
      simp
      simp [-Int.natCast_add, -Int.natCast_mul, wp_blk, f6, f13, f15, f17, m2, m3, w2, w3, hw1, s1, l1, s2, l2]
      refine ⟨⟨by omega, hyW3⟩, ⟨by omega, hyW3⟩, ?_⟩
      refine callp (weight_c (l := rowTo p W d (bstK p W d y 9).1 y W) d (by rw [rowTo_len]; exact hcut1.rd) (by rw [rowTo_len]; omega)) (by simp [-Int.natCast_add, -Int.natCast_mul, f6, f8, f13, f17, m2, m3, w2, w3, hw1]) ?_
      refine callp (weight_c (l := rowTo p W d (gi os y) y W) d (by rw [rowTo_len]; exact hcut2.rd) (by rw [rowTo_len]; omega)) (by simp [-Int.natCast_add, -Int.natCast_mul, f6, f8, f15, f17, m2, m3, w2, w3, hw1]) ?_
      simp
      refine ite_r (t := false) (by simp; omega) (fun h => by cases h) (fun _ => ?_)
      simp [-Int.natCast_add, hw1, f6, f7, f8, f13, f15, f17]
      exact ⟨by omega, M.drew⟩
    · rintro env w' ⟨f6, f7, f8, f13, f15, f17, M⟩
      simp [f7, f17]
      refine ite_r (t := false) (by simp) (fun h => by cases h) (fun _ => ?_)
      replace H := H.same M
      refine callm (gknown_c) (by simp (disch := omega) [wI, wU, tmod_nn, tdiv_nn, env0_0, env0_1, env0_2, env0_3, env0_4, env0_5, -env0_apply]) ?_
      intro w' M'
      replace H := H.same M'
      simp
      exact H.mod

end Go.Proofs.Ytifdamadeleigaa.VG
