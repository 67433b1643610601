/-
  Scan: what is seen of any plane.
-/
import Derived.Test.YtbncppklmhfnmaaNq
namespace Go.Proofs.Ytbncppklmhfnmaa.VG
open Go
set_option linter.unusedSimpArgs false
set_option linter.unusedVariables false
set_option maxRecDepth 20000

theorem roughI_len (l : List Int) (wd h p : Int) : (roughI l wd h p).length ≤ l.length := by
  unfold roughI
  split
  · split
    · simp
    · simp [roughL, mapTo_len]
  · simp
theorem rough_all {l : List Int} {W H : Nat} (hW : 1 ≤ W ∧ W ≤ 64) (hH : 1 ≤ H ∧ H ≤ 64) (hl : l.length = W * H) : roughI l W H 7 = l := by
  have hm : mayB W H = true := mayB_iff.2 ⟨by omega, by omega⟩
  unfold roughI
  rw [if_pos ⟨hm, by rw [hl, Int.natCast_mul]⟩, if_neg (by omega), Int.toNat_natCast]
  have e1 : stX (min (7 : Int) 7).toNat = 1 := by decide
  have e2 : stY (min (7 : Int) 7).toNat = 1 := by decide
  rw [e1, e2]
  apply gi_ext (by rw [roughL, mapTo_len])
  intro i hi
  rw [roughL, mapTo_len] at hi
  rw [roughL, gi_mapTo _ _ _ hi, roughAt, Nat.mod_one, Nat.mod_one]
  have := Nat.div_add_mod i W
  rw [Nat.mul_comm] at this
  rw [Nat.sub_zero, Nat.sub_zero, this]

set_option maxHeartbeats 8000000 in
theorem sroughly_law {w : World} {tv lv : Value} {t l : List Int} (wd h p : Int) (ht : Rd (fun k => k < w.heap.size) w tv t.length (intsV t)) (hm : t.length ≤ maxLen) (hl : Rd (fun k => k < w.heap.size) w lv l.length (intsV l)) :
    Calls Try.prog 6 [tv, lv, .int .i64 wd, .int .i64 h, .int .i64 p].toArray w (Ret fun r w' => r = .bool true ∧ Mod none' w w') := by
  refine F_sound c6 (by simp [fc6]) ?_
  obtain ⟨lS, lL⟩ := hl.sl
  simp [fc6, s6, lS, lL]
  by_cases hbig : 4200 < l.length
  · refine ite_r (t := true) (by simp; omega) (fun _ => ?_) (fun h => by cases h)
    simp [Mod.refl]
  refine ite_r (t := false) (by simp; omega) (fun h => by cases h) (fun _ => ?_)
  simp
  refine callp (within_c wd 1 40 (by omega) (by omega) (by omega)) (by simp) ?_
  refine callp (within_c h 1 40 (by omega) (by omega) (by omega)) (by simp) ?_
  have ba := with_bd (n := wd) (lo := 1) (hi := 40) (by omega)
  have bb := with_bd (n := h) (lo := 1) (hi := 40) (by omega)
  obtain ⟨W, hW⟩ : ∃ W : Nat, withI wd 1 40 = W := ⟨(withI wd 1 40).toNat, by omega⟩
  obtain ⟨H', hH'⟩ : ∃ H' : Nat, withI h 1 40 = H' := ⟨(withI h 1 40).toNat, by omega⟩
  rw [hW] at ba ⊢
  rw [hH'] at bb ⊢
  simp
  refine call_h (tnew_c t.length ht.cells1) (by simp) ?_
  rintro r w1 ⟨b, rfl, H⟩
  simp
  obtain ⟨hT, hlow, upR, up⟩ := H.tp 0 rfl
  have hg : ¬ (b < w.heap.size) := by omega
  refine call_h (plane_c hT (ht.at H.mod) hg hm (fun k hk => by have := H.mod.size; omega) W H' 12 (by omega) (by omega) (by omega) (by decide)) (by simp) ?_
  rintro xv w2 ⟨x, hpl, A, hs⟩
  replace H := upR _ _ A hs
  have hln := hpl.1
  replace H : Hp w w2 [.own 3 1 xv (W * H') (intsV x)] := H.drop 0
  rw [← hln] at H
  have hWH : W * H' ≤ 40 * 40 := Nat.mul_le_mul (by omega) (by omega)
  simp
  refine for_r 10 (fun k env' w' => env' 1 = lv ∧ env' 2 = .int .i64 wd ∧ env' 3 = .int .i64 h ∧ env' 4 = .int .i64 p ∧ env' 11 = .int .i64 W ∧ env' 12 = .int .i64 H' ∧ env' 13 = xv ∧ env' 14 = .int .i64 ((k : Int) - 1) ∧ Hp w w' [.own 3 1 xv x.length (intsV x)]) ?_ ?_ ?_
  · simp
    exact H
  · rintro k env w3 hk ⟨e1, e2, e3, e4, e11, e12, e13, e14, H⟩
    have hlen := roughI_len x W H' ((k : Int) - 1)
    simp [e14]
    refine ite_r (t := true) (by simp; omega) (fun _ => ?_) (fun h => by cases h)
    simp [wp_blk]
    refine call_h (rough_c (H.rd 0 rfl) (by omega) W H' ((k : Int) - 1)) (by simp [e11, e12, e13, e14]) ?_
    intro r1 w4 h1
    replace H := H.join h1
    refine call_h (scanRough_c (H.rd 0 rfl) (by omega) W H' ((k : Int) - 1)) (by simp [e11, e12, e13, e14]) ?_
    intro r2 w5 h2
    replace H := H.join h2
    refine callm (ints_c (H.rd 1 rfl) (H.rd 2 rfl) (by unfold maxLen; omega)) (by simp (disch := omega) [wI, wU, tmod_nn, tdiv_nn, env0_0, env0_1, env0_2, env0_3, env0_4, env0_5, -env0_apply]) ?_
    intro w' M'
    replace H := H.same M'
    simp
    refine ite_r (t := false) (by simp) (fun h => by cases h) (fun _ => ?_)
    simp [-Int.natCast_add, e1, e2, e3, e4, e11, e12, e13, e14]
    exact ⟨by rw [wI (by omega) (by omega)], (H.drop 2).drop 1⟩
  · rintro env w3 ⟨e1, e2, e3, e4, e11, e12, e13, e14, H⟩
    have hlen := roughI_len l wd h p
    have hal := rough_all (W := W) (H := H') (by omega) (by omega) hln
    simp [e14]
    refine ite_r (t := false) (by simp) (fun h => by cases h) (fun _ => ?_)
    simp
    refine call_h (rough_c (hl.at H.mod) (by omega) wd h p) (by simp [e1, e2, e3, e4]) ?_
    intro r1 w4 h1
    replace H := H.join h1
    refine call_h (scanRough_c (hl.at H.mod) (by omega) wd h p) (by simp [e1, e2, e3, e4]) ?_
    intro r2 w5 h2
    replace H := H.join h2
    refine callm (ints_c (H.rd 1 rfl) (H.rd 2 rfl) (by unfold maxLen; omega)) (by simp (disch := omega) [wI, wU, tmod_nn, tdiv_nn, env0_0, env0_1, env0_2, env0_3, env0_4, env0_5, -env0_apply]) ?_
    intro w' M'
    replace H := H.same M'
    simp
    refine ifg_r (t := true) (by simp) (fun _ => ?_) (fun h => (h rfl).elim)
    refine call_h (rough_c (H.rd 0 rfl) (by omega) W H' 7) (by simp [e11, e12, e13]) ?_
    rw [hal]
    intro r3 w6 h3
    replace H := H.join h3
    simp
    refine ifg_r (t := true) (by simp) (fun _ => ?_) (fun h => (h rfl).elim)
    refine callm (ints_c (H.rd 3 rfl) (H.rd 0 rfl) (by unfold maxLen; omega)) (by simp (disch := omega) [wI, wU, tmod_nn, tdiv_nn, env0_0, env0_1, env0_2, env0_3, env0_4, env0_5, -env0_apply, e13]) ?_
    intro w' M'
    replace H := H.same M'
    simp
    refine ifg_r (t := true) (by simp) (fun _ => ?_) (fun h => (h rfl).elim)
    refine callm (sknown_c) (by simp (disch := omega) [wI, wU, tmod_nn, tdiv_nn, env0_0, env0_1, env0_2, env0_3, env0_4, env0_5, -env0_apply]) ?_
    intro w' M'
    replace H := H.same M'
    simp
    exact H.mod

end Go.Proofs.Ytbncppklmhfnmaa.VG
