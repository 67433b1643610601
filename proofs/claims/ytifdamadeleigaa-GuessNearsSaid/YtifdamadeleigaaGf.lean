/-
  Guesses: kinds of a tape; the best kinds.
-/
import Derived.Test.YtifdamadeleigaaGe
namespace Go.Proofs.Ytifdamadeleigaa.VG
open Go
set_option linter.unusedSimpArgs false
set_option linter.unusedVariables false

set_option maxHeartbeats 1000000 in
theorem tkinds_c {G : Nat → Prop} {w : World} {t : Nat} {v : Value} {l : List Int} (h : Tp w t v l.length) (hr : Rd G w v l.length (intsV l)) (hg : ¬ G t) (hl : l.length ≤ maxLen) (H' : Nat) (hH : H' ≤ 1000) :
    Calls Try.prog 18 [.pointer (some ⟨t, 0, none⟩), .int .i64 H'].toArray w (Ret fun r w' => ∃ ks : List Int, ks.length = H' ∧ ks.all kindB = true ∧ TpA w t v l.length w' ∧ ∃ Gs, Sep w.heap.size w' [.own 3 1 r ks.length (intsV ks)] Gs) := by
  refine F_sound c18 (by simp [fc18]) ?_
  have H := Hp.openG h
  simp [fc18, s18]
  refine for_r H' (fun i env' w' => env' 0 = .pointer (some ⟨t, 0, none⟩) ∧ env' 1 = .int .i64 H' ∧ env' 6 = .int .i64 i ∧ ∃ ks : List Int, ks.length = i ∧ ks.all kindB = true ∧ Hp (bare w) w' [.tp t v l.length, .old w fun k => k = t, .own 3 1 (env' 5) i (intsV ks)]) ?_ ?_ ?_
  · simp
    exact H.nilS
  · rintro i env w' hi ⟨e0, e1, e6, ks, hk1, hk2, H⟩
    simp [e1, e6]
    refine ite_r (t := true) (by simp; omega) (fun _ => ?_) (fun h => by cases h)
    simp [wp_blk]
    obtain ⟨hT, _, _, up⟩ := H.tp 0 rfl
    have hr1 : Rd G w' v l.length (intsV l) := by
      obtain ⟨q1, q2, _⟩ := Hp.shutG tp_only (H.drop 2)
      exact hr.mod q2 (fun k hk hk' => hg (hk' ▸ hk))
    refine call_h (next_c hT hr1 hg hl 10 (by omega)) (by simp [e0]) ?_
    rintro r w2 ⟨k, rfl, k0, k1, A⟩
    replace H := up _ A
    refine app1_h slTI 2 H rfl (u := .int .i64 k) (by simp) (by omega) (by unfold maxLen; omega) (by simp) (by simp) (by simp) (by simp) ?_
    intro vb v' w5 w6 H
    refine ⟨.inl rfl, ?_⟩
    have hw1 : IntKind.i64.wrap ((i : Int) + 1) = ((i + 1 : Nat) : Int) := by rw [wI (by omega) (by omega)]; omega
    simp [-Int.natCast_add, hw1, e0, e1, e6]
    rw [intsV_snoc] at H
    refine ⟨by omega, ks ++ [k], by simp [hk1], ?_, H⟩
    have := k1 (by omega)
    rw [← List.all_eq_true, List.all_append, hk2]
    simp [kindB_iff]; omega
  · rintro env w' ⟨e0, e1, e6, ks, hk1, hk2, H⟩
    simp [e1, e6]
    refine ite_r (t := false) (by simp) (fun h => by cases h) (fun _ => ?_)
    simp
    obtain ⟨q1, q2, q3⟩ := Hp.shutG tp_only H
    rw [← hk1] at q3
    exact ⟨ks, hk1, by simpa using hk2, ⟨q1, q2⟩, q3⟩

def rowW (l : List Int) (W : Nat) (d : Int) (y : Nat) (k : Nat) : Int := wtI (rowTo l W d k y W) d
def bstK (l : List Int) (W : Nat) (d : Int) (y : Nat) : Nat → Int × Int
  | 0 => (0, rowW l W d y 0)
  | j + 1 => if rowW l W d y (j + 1) < (bstK l W d y j).2 then (((j + 1 : Nat) : Int), rowW l W d y (j + 1)) else bstK l W d y j
def bstKs (l : List Int) (W : Nat) (d : Int) (j : Nat) : Nat → List Int
  | 0 => []
  | y + 1 => bstKs l W d j y ++ [(bstK l W d y j).1]
def bstWs (l : List Int) (W : Nat) (d : Int) (j : Nat) : Nat → List Int
  | 0 => []
  | y + 1 => bstWs l W d j y ++ [(bstK l W d y j).2]
theorem bstKs_len (l : List Int) (W : Nat) (d : Int) (j : Nat) : ∀ y, (bstKs l W d j y).length = y
  | 0 => rfl
  | y + 1 => by simp [bstKs, bstKs_len l W d j y]
theorem bstWs_len (l : List Int) (W : Nat) (d : Int) (j : Nat) : ∀ y, (bstWs l W d j y).length = y
  | 0 => rfl
  | y + 1 => by simp [bstWs, bstWs_len l W d j y]
def bestS (l : List Int) (w h d : Int) : List Int := if planeB l w h d = true then bstKs l w.toNat d 9 h.toNat else []

set_option maxHeartbeats 2000000 in
theorem gbest_c {G : Nat → Prop} {w : World} {v : Value} {l : List Int} (wd h d : Int) (hr : Rd G w v l.length (intsV l)) (hl : l.length ≤ 1000000) :
    Calls Try.prog 22 [v, .int .i64 wd, .int .i64 h, .int .i64 d].toArray w (Ret fun r w' => Hp w w' [.own 3 1 r (bestS l wd h d).length (intsV (bestS l wd h d))]) := by
  refine F_sound c22 (by simp [fc22]) ?_
  obtain ⟨hS, hL⟩ := hr.sl
  simp [fc22, s22]
  refine callp (plane_ok wd h d hr hl) (by simp) ?_
  unfold bestS
  cases hp : planeB l wd h d
  · simp
    refine ite_r (t := true) (by simp) (fun _ => ?_) (fun h => by cases h)
    simp
    exact (Hp.nil w).nilS
  obtain ⟨W, H', rfl, rfl, hW, hH, hd, hln, hall⟩ := nn_dims hp
  have hm0 : W * H' ≤ 64 * 64 := Nat.mul_le_mul hW.2 hH.2
  simp
  refine ite_r (t := false) (by simp) (fun h => by cases h) (fun _ => ?_)
  simp
  refine mkN_h slTI (kl := .i64) (kc := .i64) (n := H') (xs := intsV (List.replicate H' 0)) (Hp.nil w) (by simp) (by simp) (by omega) (by unfold maxLen; omega) (fun z hz => by rw [zero64 hz, intsV_zeros]) ?_
  intro rv w1 H M1
  refine ⟨.inl rfl, ?_⟩
  obtain ⟨rS, rL⟩ := (H.rd 0 rfl).sl
  simp [rS, rL]
  refine for_r H' (fun y env' w' => env' 0 = v ∧ env' 1 = .int .i64 W ∧ env' 3 = .int .i64 d ∧ env' 9 = rv ∧ env' 23 = .int .i64 H' ∧ env' 24 = .int .i64 y ∧ Hp w w' [.own 3 1 rv H' (intsV (bstKs l W d 9 y ++ List.replicate (H' - y) 0))]) ?_ ?_ ?_
  · simp [rL, bstKs]
    exact H
  · rintro y env w' hy ⟨e0, e1, e3, e9, e23, e24, H⟩
    simp [e23, e24]
    refine ite_r (t := true) (by simp; omega) (fun _ => ?_) (fun h => by cases h)
    simp [wp_blk]
    have hyW : (y + 1) * W ≤ H' * W := Nat.mul_le_mul_right W (by omega)
    rw [Nat.succ_mul, Nat.mul_comm H' W] at hyW
    refine call_h (row_c W y d 0 (hr.at H.mod) hl hW (by omega) hd (by omega) hall) (by simp [e0, e1, e3, e24]) ?_
    intro u w2 HR
    replace H := H.join HR
    refine callp (weight_c (l := rowTo l W d 0 y W) d (by rw [rowTo_len]; exact H.rd 1 rfl) (by rw [rowTo_len]; omega)) (by simp [e3]) ?_
    simp
    replace H := H.drop 1
    refine for_r 9 (fun j env' w' => env' 0 = v ∧ env' 1 = .int .i64 W ∧ env' 3 = .int .i64 d ∧ env' 9 = rv ∧ env' 10 = .int .i64 y ∧ env' 11 = .int .i64 (bstK l W d y j).2 ∧ env' 12 = .int .i64 ((j + 1 : Nat) : Int) ∧ env' 23 = .int .i64 H' ∧ env' 24 = .int .i64 y ∧
      Hp w w' [.own 3 1 rv H' (intsV (bstKs l W d 9 y ++ [(bstK l W d y j).1] ++ List.replicate (H' - (y + 1)) 0))]) ?_ ?_ ?_
    · simp [e0, e1, e3, e9, e23, e24, bstK, rowW]
      have : List.replicate (H' - y) (0 : Int) = 0 :: List.replicate (H' - (y + 1)) 0 := by
        rw [show H' - y = (H' - (y + 1)) + 1 by omega, List.replicate_succ]
      rw [this] at H
      exact H
    · rintro j env w' hj ⟨f0, f1, f3, f9, f10, f11, f12, f23, f24, H⟩
      simp [-Int.natCast_add, f12]
      refine ite_r (t := true) (by simp; omega) (fun _ => ?_) (fun h => by cases h)
      simp [wp_blk]
      refine call_h (row_c W y d ((j + 1 : Nat) : Int) (hr.at H.mod) hl hW (by omega) hd (by omega) hall) (by simp [f0, f1, f3, f10, f12]) ?_
      intro u w2 HR
      replace H := H.join HR
      refine callp (weight_c (l := rowTo l W d ((j + 1 : Nat) : Int) y W) d (by rw [rowTo_len]; exact H.rd 1 rfl) (by rw [rowTo_len]; omega)) (by simp [f3]) ?_
      simp [-Int.natCast_add, f11]
      replace H := H.drop 1
      have hw1 : IntKind.i64.wrap (((j + 1 : Nat) : Int) + 1) = ((j + 1 + 1 : Nat) : Int) := by rw [wI (by omega) (by omega)]; omega
      have hbk : bstK l W d y (j + 1) = if rowW l W d y (j + 1) < (bstK l W d y j).2 then (((j + 1 : Nat) : Int), rowW l W d y (j + 1)) else bstK l W d y j := rfl
      have hrw : wtI (rowTo l W d ((j + 1 : Nat) : Int) y W) d = rowW l W d y (j + 1) := rfl
      rw [hrw]
      obtain ⟨r2S, r2L⟩ := (H.rd 0 rfl).sl
      have hpr := (H.rd 0 rfl).ptr (by simp [intsV, bstKs_len]; omega)
      by_cases hc : rowW l W d y (j + 1) < (bstK l W d y j).2
      · rw [if_pos hc] at hbk
        refine ite_r (t := true) (by simp [hc]) (fun _ => ?_) (fun h => by cases h)
        simp [-Int.natCast_add, f9, f10, rS, rL, hy, hpr.1]
        refine set_h 0 H rfl (i := y) (u := .int .i64 ((j + 1 : Nat) : Int)) hy (by simp [f9, f10, rS, rL, hy, hpr.1]) (by simp [f12]) (by simp) ?_
        intro w3 H
        refine ⟨.inl rfl, ?_⟩
        rw [hbk]
        simp [-Int.natCast_add, hw1, f0, f1, f3, f9, f10, f12, f23, f24]
        replace H : Hp w w3 [.own 3 1 rv H' ((intsV (bstKs l W d 9 y ++ [(bstK l W d y j).1] ++ List.replicate (H' - (y + 1)) 0)).set y (.int .i64 ((j + 1 : Nat) : Int)))] := H
        have hse : (intsV (bstKs l W d 9 y ++ [(bstK l W d y j).1] ++ List.replicate (H' - (y + 1)) 0)).set y (.int .i64 ((j + 1 : Nat) : Int)) = intsV (bstKs l W d 9 y ++ ((j + 1 : Nat) : Int) :: List.replicate (H' - (y + 1)) 0) := by
          have := bstKs_len l W d 9 y
          generalize bstKs l W d 9 y = b at *
          subst this
          simp [intsV, List.set_append]
        rw [hse] at H
        exact ⟨by omega, H⟩
      · rw [if_neg hc] at hbk
        refine ite_r (t := false) (by simp; omega) (fun h => by cases h) (fun _ => ?_)
        rw [hbk]
        simp [-Int.natCast_add, hw1, f0, f1, f3, f9, f10, f11, f12, f23, f24]
        replace H : Hp w w2 [.own 3 1 rv H' (intsV (bstKs l W d 9 y ++ [(bstK l W d y j).1] ++ List.replicate (H' - (y + 1)) 0))] := H
        rw [List.append_assoc] at H
        exact ⟨by omega, H⟩
    · rintro env w' ⟨f0, f1, f3, f9, f10, f11, f12, f23, f24, H⟩
      simp [-Int.natCast_add, f12]
      refine ite_r (t := false) (by simp) (fun h => by cases h) (fun _ => ?_)
      have hw1 : IntKind.i64.wrap ((y : Int) + 1) = ((y + 1 : Nat) : Int) := by rw [wI (by omega) (by omega)]; omega
      simp [-Int.natCast_add, hw1, f0, f1, f3, f9, f23, f24]
      exact ⟨by omega, H⟩
  · rintro env w' ⟨e0, e1, e3, e9, e23, e24, H⟩
    simp [e23, e24]
    refine ite_r (t := false) (by simp) (fun h => by cases h) (fun _ => ?_)
    simp [e9]
    rw [bstKs_len]
    simpa using H

theorem bstKs_gi (l : List Int) (W : Nat) (d : Int) (j : Nat) : ∀ N y, y < N → gi (bstKs l W d j N) y = (bstK l W d y j).1
  | 0, y, h => by omega
  | N + 1, y, h => by
    have hl := bstKs_len l W d j N
    by_cases hy : y = N
    · subst hy
      rw [bstKs, gi, List.getD_eq_getElem?_getD, List.getElem?_append_right (by omega), hl, Nat.sub_self]; rfl
    · rw [bstKs, gi_app_left _ _ _ (by omega), bstKs_gi l W d j N y (by omega)]
theorem bstWs_gi (l : List Int) (W : Nat) (d : Int) (j : Nat) : ∀ N y, y < N → gi (bstWs l W d j N) y = (bstK l W d y j).2
  | 0, y, h => by omega
  | N + 1, y, h => by
    have hl := bstWs_len l W d j N
    by_cases hy : y = N
    · subst hy
      rw [bstWs, gi, List.getD_eq_getElem?_getD, List.getElem?_append_right (by omega), hl, Nat.sub_self]; rfl
    · rw [bstWs, gi_app_left _ _ _ (by omega), bstWs_gi l W d j N y (by omega)]
theorem intsV_get (c : List Int) (i : Nat) (h : i < c.length) : (intsV c)[i]? = some (.int .i64 (gi c i)) := by simp [intsV, gi, h]
theorem drop_gi (c : List Int) (y : Nat) (h : y < c.length) : c.drop y = gi c y :: c.drop (y + 1) := by
  rw [List.drop_eq_getElem_cons h, gi_get c y h]
theorem set_mid (p c : List Int) (y : Nat) (v : Int) (hp : p.length = y) (h : y < c.length) : (intsV (p ++ c.drop y)).set y (.int .i64 v) = intsV (p ++ [v] ++ c.drop (y + 1)) := by
  rw [drop_gi c y h]
  subst hp
  simp [intsV, List.set_append]
theorem gi_mid (p c : List Int) (y : Nat) (hp : p.length = y) (h : y < c.length) : gi (p ++ c.drop y) y = gi c y := by
  rw [drop_gi c y h, gi, List.getD_eq_getElem?_getD, List.getElem?_append_right (by omega), hp, Nat.sub_self]; rfl
/-- What is best after so many kinds. -/
def bc (l : List Int) (W : Nat) (d : Int) (N : Nat) : Nat → List Int
  | 0 => List.replicate N 0
  | j + 1 => bstKs l W d j N
def wc (l : List Int) (W : Nat) (d : Int) (N : Nat) : Nat → List Int
  | 0 => List.replicate N 0
  | j + 1 => bstWs l W d j N
theorem bc_len (l : List Int) (W : Nat) (d : Int) (N : Nat) (j : Nat) : (bc l W d N j).length = N := by cases j <;> simp [bc, bstKs_len]
theorem wc_len (l : List Int) (W : Nat) (d : Int) (N : Nat) (j : Nat) : (wc l W d N j).length = N := by cases j <;> simp [wc, bstWs_len]
theorem foreTo_take (l : List Int) (W : Nat) (d : Int) (ks : List Int) (i : Nat) : ∀ j, i ≤ j → (foreTo l W d ks j).take i = foreTo l W d ks i
  | 0, h => by obtain rfl : i = 0 := by omega
               rfl
  | j + 1, h => by
    by_cases he : i = j + 1
    · subst he; rw [List.take_of_length_le (by rw [foreTo_len]; omega)]
    · rw [foreTo, List.take_append_of_le_length (by rw [foreTo_len]; omega), foreTo_take l W d ks i j (by omega)]
theorem fore_row (l : List Int) {W : Nat} (hW : 0 < W) (d : Int) (ks : List Int) (y N : Nat) (h : (y + 1) * W ≤ N) : ((foreTo l W d ks N).take ((y + 1) * W)).drop (y * W) = rowTo l W d (gi ks y) y W := by
  rw [foreTo_take l W d ks _ _ h, ← foreRows_is l hW d ks (y + 1), foreRows, foreRows_is l hW d ks y, List.drop_left' (by rw [foreTo_len])]

set_option maxHeartbeats 4000000 in
theorem gbest2_c {G : Nat → Prop} {w : World} {v : Value} {l : List Int} (wd h d : Int) (hr : Rd G w v l.length (intsV l)) (hl : l.length ≤ 1000000) :
    Calls Try.prog 25 [v, .int .i64 wd, .int .i64 h, .int .i64 d].toArray w (Ret fun r w' => Hp w w' [.own 3 1 r (bestS l wd h d).length (intsV (bestS l wd h d))]) := by
  refine F_sound c25 (by simp [fc25]) ?_
  obtain ⟨hS, hL⟩ := hr.sl
  simp [fc25, s25]
  refine callp (plane2_ok wd h d hr hl) (by simp) ?_
  unfold bestS
  cases hp : planeB l wd h d
  · simp
    refine ite_r (t := true) (by simp) (fun _ => ?_) (fun h => by cases h)
    simp
    exact (Hp.nil w).nilS
  obtain ⟨W, H', rfl, rfl, hW, hH, hd, hln, hall⟩ := nn_dims hp
  have hm0 : W * H' ≤ 64 * 64 := Nat.mul_le_mul hW.2 hH.2
  simp
  refine ite_r (t := false) (by simp) (fun h => by cases h) (fun _ => ?_)
  refine sq_r (fun env' w' => env' 0 = v ∧ env' 1 = .int .i64 W ∧ env' 2 = .int .i64 H' ∧ env' 3 = .int .i64 d ∧ ∃ bv lv, env' 9 = bv ∧ env' 10 = lv ∧ Hp w w' [.own 3 1 bv H' (intsV (List.replicate H' 0)), .own 3 1 lv H' (intsV (List.replicate H' 0))]) ?_ ?_
  · have H := (Hp.nil w).drew
    simp
    refine wp_alt ?_ ?_
    · refine mkN_h slTI (kl := .i64) (kc := .i64) (n := H') (xs := intsV (List.replicate H' 0)) H (by simp) (by simp) (by omega) (by unfold maxLen; omega) (fun z hz => by rw [zero64 hz, intsV_zeros]) ?_
      intro bv w1 H M1
      refine ⟨.inl rfl, ?_⟩
      simp
      refine mkN_h slTI (kl := .i64) (kc := .i64) (n := H') (xs := intsV (List.replicate H' 0)) H (by simp) (by simp) (by omega) (by unfold maxLen; omega) (fun z hz => by rw [zero64 hz, intsV_zeros]) ?_
      intro lv w2 H M2
      refine ⟨.inl rfl, ?_⟩
      simp
      exact H
    · refine mkN_h slTI (kl := .i64) (kc := .i64) (n := H') (xs := intsV (List.replicate H' 0)) H (by simp) (by simp) (by omega) (by unfold maxLen; omega) (fun z hz => by rw [zero64 hz, intsV_zeros]) ?_
      intro lv w1 H M1
      refine ⟨.inl rfl, ?_⟩
      refine mkN_h slTI (kl := .i64) (kc := .i64) (n := H') (xs := intsV (List.replicate H' 0)) H (by simp) (by simp) (by omega) (by unfold maxLen; omega) (fun z hz => by rw [zero64 hz, intsV_zeros]) ?_
      intro bv w2 H M2
      refine ⟨.inl rfl, ?_⟩
      simp
      exact H.perm (.swap _ _ _)
  · rintro env w1 ⟨e0, e1, e2, e3, bv, lv, e9, e10, H⟩
    obtain ⟨bS, bL⟩ := (H.rd 0 rfl).sl
    obtain ⟨lS, lL⟩ := (H.rd 1 rfl).sl
    simp
    refine for_r 10 (fun j env' w' => env' 0 = v ∧ env' 1 = .int .i64 W ∧ env' 2 = .int .i64 H' ∧ env' 3 = .int .i64 d ∧ env' 9 = bv ∧ env' 10 = lv ∧ env' 11 = .int .i64 j ∧ Hp w w' [.own 3 1 bv H' (intsV (bc l W d H' j)), .own 3 1 lv H' (intsV (wc l W d H' j))]) ?_ ?_ ?_
    · simp [e0, e1, e2, e3, e9, e10, bc, wc]
      exact H
    · rintro j env w' hj ⟨f0, f1, f2, f3, f9, f10, f11, H⟩
      simp [f11]
      refine ite_r (t := true) (by simp; omega) (fun _ => ?_) (fun h => by cases h)
      simp
      rw [wp_blk]
      refine mkN_h slTI (kl := .i64) (kc := .i64) (n := H') (xs := intsV (List.replicate H' 0)) H (by simp [f2]) (by simp [f2]) (by omega) (by unfold maxLen; omega) (fun z hz => by rw [zero64 hz, intsV_zeros]) ?_
      intro kv w2 H M2
      refine ⟨.inl rfl, ?_⟩
      obtain ⟨kS, kL⟩ := (H.rd 2 rfl).sl
      simp
      refine for_r H' (fun y env' w' => env' 0 = v ∧ env' 1 = .int .i64 W ∧ env' 2 = .int .i64 H' ∧ env' 3 = .int .i64 d ∧ env' 9 = bv ∧ env' 10 = lv ∧ env' 11 = .int .i64 j ∧ env' 12 = kv ∧ env' 13 = .int .i64 y ∧
        Hp w w' [.own 3 1 bv H' (intsV (bc l W d H' j)), .own 3 1 lv H' (intsV (wc l W d H' j)), .own 3 1 kv H' (intsV (List.replicate y (j : Int) ++ List.replicate (H' - y) 0))]) ?_ ?_ ?_
      · simp [f0, f1, f2, f3, f9, f10, f11]
        exact H
      · rintro y env w' hy ⟨g0, g1, g2, g3, g9, g10, g11, g12, g13, H⟩
        simp [g2, g13]
        refine ite_r (t := true) (by simp; omega) (fun _ => ?_) (fun h => by cases h)
        have hpr := (H.rd 2 rfl).ptr (by simp [intsV]; omega)
        simp [wp_blk, g12, g13, kS, kL, hy, hpr.1]
        refine set_h 2 H rfl (i := y) (u := .int .i64 j) hy (by simp [g12, g13, kS, kL, hy, hpr.1]) (by simp [g11]) (by simp) ?_
        intro w3 H
        refine ⟨.inl rfl, ?_⟩
        have hsf := set_fill (p := List.replicate y (j : Int)) (n := H') (j : Int) (by simp) hy
        rw [List.append_assoc] at hsf
        have hw1 : IntKind.i64.wrap ((y : Int) + 1) = ((y + 1 : Nat) : Int) := by rw [wI (by omega) (by omega)]; omega
        simp [-Int.natCast_add, hw1, g0, g1, g2, g3, g9, g10, g11, g12, g13]
        simp only [List.set_cons_succ, List.set_cons_zero] at H
        rw [hsf, ← List.append_assoc, ← List.replicate_succ'] at H
        exact ⟨by omega, H⟩
      · rintro env w' ⟨g0, g1, g2, g3, g9, g10, g11, g12, g13, H⟩
        simp [g2, g13]
        refine ite_r (t := false) (by simp) (fun h => by cases h) (fun _ => ?_)
        simp only [Nat.sub_self, List.replicate_zero, List.append_nil] at H
        have hrk : Rd (fun _ => True) w' kv (List.replicate H' (j : Int)).length (intsV (List.replicate H' (j : Int))) := by rw [List.length_replicate]; exact (H.rd 2 rfl).top
        have hks : kindsB (List.replicate H' (j : Int)) H' = true := by
          simp only [kindsB, Bool.and_eq_true, decide_eq_true_eq, List.all_eq_true]
          refine ⟨by simp, fun x hx => ?_⟩
          rw [List.mem_replicate] at hx
          rw [hx.2]
          exact kindB_iff.2 (by omega)
        have hfs : foreS l W H' d (List.replicate H' (j : Int)) = (foreTo l W d (List.replicate H' (j : Int)) l.length, 0) := by rw [foreS, if_pos ⟨hp, hks⟩]; rfl
        refine call_h (fore2_c W H' d (hr.at H.mod).top hrk hl (by simp; omega)) (by simp [g0, g1, g2, g3, g12]) ?_
        rw [hfs]
        rintro r w3 ⟨u, rfl, HR⟩
        replace H := (H.drop 2).join HR
        simp only [foreTo_len] at H
        obtain ⟨uS, uL⟩ := (H.rd 2 rfl).sl
        simp
        refine for_r H' (fun y env' w' => env' 0 = v ∧ env' 1 = .int .i64 W ∧ env' 2 = .int .i64 H' ∧ env' 3 = .int .i64 d ∧ env' 9 = bv ∧ env' 10 = lv ∧ env' 11 = .int .i64 j ∧ env' 14 = u ∧ env' 16 = .int .i64 y ∧
          Hp w w' [.own 3 1 bv H' (intsV (bstKs l W d j y ++ (bc l W d H' j).drop y)), .own 3 1 lv H' (intsV (bstWs l W d j y ++ (wc l W d H' j).drop y)), .own 3 1 u l.length (intsV (foreTo l W d (List.replicate H' (j : Int)) l.length))]) ?_ ?_ ?_
        · simp [g0, g1, g2, g3, g9, g10, g11, bstKs, bstWs]
          exact H
        · rintro y env w' hy ⟨k0, k1, k2, k3, k9, k10, k11, k14, k16, H⟩
          simp [k2, k16]
          refine ite_r (t := true) (by simp; omega) (fun _ => ?_) (fun h => by cases h)
          have hyW : (y + 1) * W ≤ H' * W := Nat.mul_le_mul_right W (by omega)
          have hyW2 : (y + 1) * W ≤ l.length := by rw [hln, Nat.mul_comm W H']; exact hyW
          have hyW3 : y * W ≤ (y + 1) * W := Nat.mul_le_mul_right W (by omega)
          have hsub : (y + 1) * W - y * W = W := by rw [Nat.succ_mul]; omega
          have m1 : (y : Int) * (W : Int) = ((y * W : Nat) : Int) := by rw [Int.natCast_mul]
          have m2 : ((y + 1 : Nat) : Int) * (W : Int) = (((y + 1) * W : Nat) : Int) := by rw [Int.natCast_mul]
          have hw1 : IntKind.i64.wrap ((y : Int) + 1) = ((y + 1 : Nat) : Int) := by rw [wI (by omega) (by omega)]; omega
          have w1 : IntKind.i64.wrap ((y * W : Nat) : Int) = ((y * W : Nat) : Int) := wI (by omega) (by omega)
          have w2 : IntKind.i64.wrap (((y + 1) * W : Nat) : Int) = (((y + 1) * W : Nat) : Int) := wI (by omega) (by omega)
          have hrc := H.rc 2 rfl
          have hcut := hrc.cut (y * W) ((y + 1) * W) hyW3 hyW2
          rw [intsV_cut, fore_row l (by omega) d _ y _ hyW2, hsub] at hcut
          have hgk : gi (List.replicate H' (j : Int)) y = j := by rw [gi_get _ _ (by simp; omega)]; simp
          rw [hgk] at hcut
          obtain ⟨uS, uL, uC⟩ := hrc.sl
          have hpb := (H.rd 0 rfl).ptr (by simp [intsV, bstKs_len, bc_len]; omega)
          have hpl := (H.rd 1 rfl).ptr (by simp [intsV, bstWs_len, wc_len]; omega)
          have hgl : w'.cell? ((slB lv).add y) = some (.int .i64 (gi (bstWs l W d j y ++ (wc l W d H' j).drop y) y)) := (H.rd 1 rfl).cell y _ (intsV_get _ _ (by simp [bstWs_len, wc_len]; omega))
          rw [gi_mid _ _ _ (bstWs_len l W d j y) (by rw [wc_len]; exact hy)] at hgl
          have hbk : ∀ j', j = j' + 1 → bstK l W d y j = if rowW l W d y j < (bstK l W d y j').2 then ((j : Int), rowW l W d y j) else bstK l W d y j' := fun j' h => by subst h; rfl
          have hb0 : j = 0 → bstK l W d y j = ((j : Int), rowW l W d y j) := fun h => by subst h; rfl
          have hgw : ∀ j', j = j' + 1 → gi (wc l W d H' j) y = (bstK l W d y j').2 := fun j' h => by subst h; exact bstWs_gi l W d j' H' y hy
          have hgb : ∀ j', j = j' + 1 → gi (bc l W d H' j) y = (bstK l W d y j').1 := fun j' h => by subst h; exact bstKs_gi l W d j' H' y hy
          have hrw : wtI (rowTo l W d (j : Int) y W) d = rowW l W d y j := rfl
          simp [-Int.natCast_add, -Int.natCast_mul, wp_blk, k1, k14, k16, m1, m2, w1, w2, hw1, uS, uL]
          refine ⟨⟨by omega, by omega⟩, ?_⟩
          refine callp (weight2_c (l := rowTo l W d (j : Int) y W) d (by rw [rowTo_len]; exact hcut.rd) (by rw [rowTo_len]; omega)) (by simp [-Int.natCast_add, -Int.natCast_mul, k1, k3, k14, k16, m1, m2, w1, w2, hw1]) ?_
          rw [hrw]
          simp [k10, k11, k16, lS, lL, hy, hgl, hpl.1]
          have e1 : bstKs l W d j (y + 1) = bstKs l W d j y ++ [(bstK l W d y j).1] := rfl
          have e2 : bstWs l W d j (y + 1) = bstWs l W d j y ++ [(bstK l W d y j).2] := rfl
          have hbl := bc_len l W d H' j
          have hwl := wc_len l W d H' j
          by_cases hc : j = 0 ∨ rowW l W d y j < gi (wc l W d H' j) y
          · have hk : bstK l W d y j = ((j : Int), rowW l W d y j) := by
              by_cases hj0 : j = 0
              · exact hb0 hj0
              · obtain ⟨j', hj'⟩ : ∃ j', j = j' + 1 := ⟨j - 1, by omega⟩
                rw [hbk j' hj', if_pos]
                rw [← hgw j' hj']
                omega
            refine ite_r (t := true) (by simp; omega) (fun _ => ?_) (fun h => by cases h)
            simp [k9, k11, k16, bS, bL, hy, hpb.1]
            refine set_h 0 H rfl (i := y) (u := .int .i64 (j : Int)) hy (by simp [k9, k16, bS, bL, hy, hpb.1]) (by simp [k11]) (by simp) ?_
            intro w5 H
            refine ⟨.inl rfl, ?_⟩
            simp [k10, k16, lS, lL, hy, hpl.1]
            refine set_h 1 H rfl (i := y) (u := .int .i64 (rowW l W d y j)) hy (by simp [k10, k16, lS, lL, hy, hpl.1]) (by simp) (by simp) ?_
            intro w6 H
            refine ⟨.inl rfl, ?_⟩
            rw [e1, e2, hk]
            simp [-Int.natCast_add, hw1, k0, k1, k2, k3, k9, k10, k11, k14, k16]
            replace H : Hp w w6 [.own 3 1 bv H' ((intsV (bstKs l W d j y ++ (bc l W d H' j).drop y)).set y (.int .i64 (j : Int))), .own 3 1 lv H' ((intsV (bstWs l W d j y ++ (wc l W d H' j).drop y)).set y (.int .i64 (rowW l W d y j))), .own 3 1 u l.length (intsV (foreTo l W d (List.replicate H' (j : Int)) l.length))] := H
            rw [set_mid _ _ _ _ (bstKs_len l W d j y) (by omega), set_mid _ _ _ _ (bstWs_len l W d j y) (by omega), List.append_assoc, List.append_assoc] at H
            exact ⟨by omega, H⟩
          · obtain ⟨j', hj'⟩ : ∃ j', j = j' + 1 := ⟨j - 1, by omega⟩
            have hk : bstK l W d y j = bstK l W d y j' := by
              rw [hbk j' hj', if_neg]
              rw [← hgw j' hj']
              omega
            refine ite_r (t := false) (by simp; omega) (fun h => by cases h) (fun _ => ?_)
            rw [e1, e2, hk, ← hgb j' hj', ← hgw j' hj']
            simp [-Int.natCast_add, hw1, k0, k1, k2, k3, k9, k10, k11, k14, k16]
            rw [drop_gi _ y (by omega : y < (bc l W d H' j).length), drop_gi _ y (by omega : y < (wc l W d H' j).length)] at H
            exact ⟨by omega, H⟩
        · rintro env w' ⟨k0, k1, k2, k3, k9, k10, k11, k14, k16, H⟩
          simp [k2, k16]
          refine ite_r (t := false) (by simp) (fun h => by cases h) (fun _ => ?_)
          have hw1 : IntKind.i64.wrap ((j : Int) + 1) = ((j + 1 : Nat) : Int) := by rw [wI (by omega) (by omega)]; omega
          simp [-Int.natCast_add, hw1, k0, k1, k2, k3, k9, k10, k11]
          rw [List.drop_of_length_le (by rw [bc_len]; omega), List.drop_of_length_le (by rw [wc_len]; omega), List.append_nil, List.append_nil] at H
          exact ⟨by omega, H.drop 2⟩
    · rintro env w' ⟨f0, f1, f2, f3, f9, f10, f11, H⟩
      simp [f11]
      refine ite_r (t := false) (by simp) (fun h => by cases h) (fun _ => ?_)
      simp [f9]
      rw [bstKs_len]
      exact H.drop 1

end Go.Proofs.Ytifdamadeleigaa.VG
