/-
  Long: Back, the document's Rest and Back: what each call comes to.
-/
import Derived.Test.YtdpnaaggjgmaiaaLd
namespace Go.Proofs.Ytdpnaaggjgmaiaa.VG
open Go
set_option linter.unusedSimpArgs false
set_option linter.unusedVariables false

theorem backS_bad {l : List Int} {lag : Int} {t : List Int} (h1 : mayB lag t = true) (h3 : allW l = false ∨ backF lag t [] l = none) : backS l lag t = ([], 6) := by
  rcases h3 with h3 | h3
  · simp [backS, h1, h3]
  · simp [backS, h1, h3]
theorem backS_of {l m : List Int} {lag : Int} {t : List Int} (h1 : mayB lag t = true) (h2 : allW l = true) (h3 : backF lag t [] l = some m) : backS l lag t = (m, 0) := by
  simp [backS, h1, h2, h3]
theorem allW_snoc {l : List Int} {x : Int} (h : allW l = true) (hx : wideB x = true) : allW (l ++ [x]) = true := by
  simp only [allW] at h; simp [allW, h, hx]
theorem allW_wides {l : List Int} (h : allW l = true) (n : Nat) (hn : n ≤ l.length) : Wides l n := fun i hi => allW_gi h i (by omega)

set_option maxHeartbeats 1000000 in
theorem back_c {G : Nat → Prop} {w : World} {v : Value} {l : List Int} (lag : Int) (t : List Int) (h : Rd G w v l.length (intsV l)) (hl : l.length ≤ 1000000) (ht : Taps t) :
    Calls Try.prog 16 [v, .int .i64 lag, tapV t].toArray w (Ret fun r w' => RowErr w w' r (backS l lag t)) := by
  refine F_sound c16 (by simp [fc16]) ?_
  obtain ⟨hS, hL⟩ := h.sl
  have hlm : l.length ≤ maxLen := by unfold maxLen; omega
  simp [fc16, s16]
  refine box_h (tapV t) (Hp.nil w) (by simp) ?_
  intro b w1 H M1
  obtain ⟨hb, hcs⟩ := tap_box ht (H.blk 0 rfl)
  refine ⟨.inl rfl, ?_⟩
  simp [hcs]
  refine ⟨fun j hj => by rw [hb j hj]; rfl, ?_⟩
  refine callm (may_c lag t ht) (by simp [tapV]) ?_
  intro w2 M2
  replace H := H.same M2
  simp
  cases hmay : mayB lag t
  · refine ite_r (t := true) (by simp) (fun _ => ?_) (fun h => by cases h)
    simp
    rw [show backS l lag t = ([], 1) by simp [backS, hmay]]
    exact RowErr.bad H.mod
  · have hiff := (mayB_iff ht).1 hmay
    refine ite_r (t := false) (by simp) (fun h => by cases h) (fun _ => ?_)
    simp
    refine callp (allWide_c (h.at H.mod) hlm) (by simp) ?_
    simp
    cases hall : allW l
    · refine ite_r (t := true) (by simp) (fun _ => ?_) (fun h => by cases h)
      simp
      rw [backS_bad hmay (.inl hall)]
      exact RowErr.bad H.mod
    · refine ite_r (t := false) (by simp) (fun h => by cases h) (fun _ => ?_)
      simp [hS, hL]
      refine mk0_h slTI (kl := .i64) (kc := .i64) (c := l.length) H (by simp) (by simp [hL]) (by omega) (by omega) (by omega) (by omega) ?_
      intro u w3 H M3
      refine ⟨.inl rfl, ?_⟩
      simp [hS, hL]
      refine for_r l.length (fun i env' w' => env' 0 = v ∧ env' 1 = .int .i64 lag ∧ env' 5 = .pointer (some ⟨b, 0, none⟩) ∧ env' 22 = v ∧ env' 23 = .int .i64 l.length ∧ env' 24 = .int .i64 i ∧
        ∃ row, row.length = i ∧ Hp w w' [.blk b (tapV t).cells, .own 3 1 (env' 8) row.length (intsV row)] ∧ allW row = true ∧ backF lag t [] l = backF lag t row (l.drop i)) ?_ ?_ ?_
      · simp
        exact ⟨H, rfl⟩
      · rintro i env w' hi ⟨e0, e1, e5, e22, e23, e24, row, hri, H, ha, hbk⟩
        have hc := (h.at H.mod).gi i hi
        have hp := h.some (by omega)
        obtain ⟨hb, hcs⟩ := tap_box ht (H.blk 0 rfl)
        simp [e23, e24]
        refine ite_r (t := true) (by simp [hi]) (fun _ => ?_) (fun h => by cases h)
        simp [wp_blk, e0, e1, e5, e22, e24, hS, hL, hp, hc, hi, hcs]
        refine ⟨fun j hj => by rw [hb j hj]; rfl, ?_⟩
        refine callm (predict_c i lag t (H.rd 1 rfl) (by unfold maxLen; omega) (by omega) ⟨ht, hiff.2⟩ (allW_wides ha i (by omega)) hiff.1.1 hiff.1.2) (by simp [e0, e1, tapV]) ?_
        intro w4 M4
        replace H := H.same M4
        have hgb := guess_bd (lag := lag) ⟨ht, hiff.2⟩ (allW_wides ha i (by omega)) hiff.1.1
        have hwi := allW_wides hall l.length (by omega) i hi
        rw [drop_gi l i hi, backF, hri] at hbk
        simp (disch := omega) [wI, wU, tmod_nn, tdiv_nn, env0_0, env0_1, env0_2, env0_3, env0_4, env0_5, -env0_apply]
        refine callp (wide_c (gi l i + guess row i lag t)) (by simp (disch := omega) [wI, wU, tmod_nn, tdiv_nn, env0_0, env0_1, env0_2, env0_3, env0_4, env0_5, -env0_apply]) ?_
        simp
        cases hw : wideB (gi l i + guess row i lag t)
        · refine ite_r (t := true) (by simp) (fun _ => ?_) (fun h => by cases h)
          simp
          rw [backS_bad hmay (.inr (by rw [hbk, hw]; rfl))]
          exact RowErr.bad H.mod
        · refine ite_r (t := false) (by simp) (fun h => by cases h) (fun _ => ?_)
          simp
          refine app1_h slTI 1 H rfl (u := .int .i64 (gi l i + guess row i lag t)) (by simp) (by omega) (by unfold maxLen; omega) (by simp) (by simp) (by simp) (by simp) ?_
          intro vb u' w5 w6 H
          refine ⟨.inl rfl, ?_⟩
          rw [intsV_snoc] at H
          simp (disch := omega) [wI, wU, tmod_nn, tdiv_nn, env0_0, env0_1, env0_2, env0_3, env0_4, env0_5, -env0_apply, e0, e1, e5, e22, e23, e24]
          exact ⟨row ++ [gi l i + guess row i lag t], by simp [hri], by simpa using H, allW_snoc ha hw, by rw [hbk, if_pos hw]⟩
      · rintro env w' ⟨e0, e1, e5, e22, e23, e24, row, hri, H, ha, hbk⟩
        simp [e23, e24]
        refine ite_r (t := false) (by simp) (fun h => by cases h) (fun _ => ?_)
        simp
        rw [backS_of hmay hall (m := row) (by rw [hbk, List.drop_length, backF])]
        exact ⟨_, rfl, H.drop 0⟩

theorem slice_pre {G : Nat → Prop} {w : World} {v : Value} {n : Nat} {xs : List Value} (h : Rd G w v n xs) (k : Nat) (hk : k ≤ xs.length) : Rd G w (slVal 1 v 0 k) k (xs.take k) := by
  obtain ⟨cap, hv⟩ := h.is
  have h1 : slA (slVal 1 v 0 k) = slA v := by
    simp only [slVal, slA_slice]
    split
    · rfl
    · cases slA v <;> simp [add_zero]
  refine ⟨⟨slC v, by rw [h1]; simp only [slVal, Nat.sub_zero, Nat.zero_mul, add_zero]; split <;> first | rfl | (cases slA v <;> rfl)⟩, fun hp => ?_, fun j u hj => ?_⟩
  · have := h.ptr (by simp at hp; omega)
    simpa [slB, h1] using this
  · have hjk := (List.getElem?_eq_some_iff.1 hj).1
    rw [List.length_take] at hjk
    rw [List.getElem?_take_of_lt (by omega)] at hj
    have := h.cell j u hj
    simpa [slB, h1] using this

theorem intsV_take (l : List Int) (k : Nat) : (intsV l).take k = intsV (l.take k) := by simp [intsV]

set_option maxHeartbeats 1000000 in
theorem longRest_c {G : Nat → Prop} {w : World} {v : Value} {l : List Int} (lag : Int) (t : List Int) (h : Rd G w v l.length (intsV l)) (hcap : l.length ≤ slC v) (hl : l.length ≤ 1000000) (ht : Taps t) :
    Calls Try.prog 12 [v, .int .i64 lag, tapV t].toArray w (Ret fun r w' => RowErr w w' r (restS l lag t)) := by
  refine F_sound c12 (by simp [fc12]) ?_
  obtain ⟨hS, hL⟩ := h.sl
  have hlm : l.length ≤ maxLen := by unfold maxLen; omega
  simp [fc12, s12]
  refine box_h (tapV t) (Hp.nil w) (by simp) ?_
  intro b w1 H M1
  obtain ⟨hb, hcs⟩ := tap_box ht (H.blk 0 rfl)
  refine ⟨.inl rfl, ?_⟩
  simp [hcs]
  refine ⟨fun j hj => by rw [hb j hj]; rfl, ?_⟩
  refine callm (longMay_c lag t ht) (by simp [tapV]) ?_
  intro w2 M2
  replace H := H.same M2
  simp
  cases hmay : mayB lag t
  · refine ite_r (t := true) (by simp) (fun _ => ?_) (fun h => by cases h)
    simp
    rw [show restS l lag t = ([], 1) by simp [restS, hmay]]
    exact RowErr.bad H.mod
  · have hiff := (mayB_iff ht).1 hmay
    refine ite_r (t := false) (by simp) (fun h => by cases h) (fun _ => ?_)
    simp
    refine callp (allWide2_c (h.at H.mod) hlm) (by simp) ?_
    simp
    cases hall : allW l
    · refine ite_r (t := true) (by simp) (fun _ => ?_) (fun h => by cases h)
      simp
      rw [restS_bad hmay (.inl hall)]
      exact RowErr.bad H.mod
    · have hW : ∀ n, n ≤ l.length → Wides l n := fun n hn i hi => allW_gi hall i (by omega)
      refine ite_r (t := false) (by simp) (fun h => by cases h) (fun _ => ?_)
      simp
      refine for_r l.length (fun i env' w' => env' 0 = v ∧ env' 1 = .int .i64 lag ∧ env' 5 = .pointer (some ⟨b, 0, none⟩) ∧ env' 9 = .int .i64 i ∧
        Hp w w' [.blk b (tapV t).cells, .own 3 1 (env' 8) i (intsV ((restL l lag t).take i))]) ?_ ?_ ?_
      · simp
        exact H.nilS
      · rintro i env w' hi ⟨e0, e1, e5, e9, H⟩
        have hi' : i < (restL l lag t).length := by rw [restL_len]; exact hi
        have hc := (h.at H.mod).gi i hi
        have hp := h.some (by omega)
        obtain ⟨hb, hcs⟩ := tap_box ht (H.blk 0 rfl)
        simp [e0, e9, hS, hL]
        refine ite_r (t := true) (by simp [hi]) (fun _ => ?_) (fun h => by cases h)
        simp [wp_blk, e0, e1, e5, e9, hS, hL, hp, hc, hi, hcs]
        refine ⟨by omega, fun j hj => by rw [hb j hj]; rfl, ?_⟩
        have hpre := slice_pre ((h.at H.mod).at (Mod.refl none' w').drew) i (by rw [intsV_length]; omega)
        rw [intsV_take] at hpre
        have hlt : (l.take i).length = i := by rw [List.length_take]; omega
        have hgt : guess (l.take i) i lag t = guess l i lag t := guess_congr hiff.1.1 (fun j hj => gi_take l i j hj)
        have hWt : Wides (l.take i) i := fun j hj => by rw [gi_take l i j hj]; exact hW i (by omega) j hj
        refine call_r _ (longGuess_c lag t (by rw [hlt]; exact hpre) (by rw [hlt]; unfold maxLen; omega) ⟨ht, hiff.2⟩ (by rw [hlt]; exact hWt) hiff.1.1 hiff.1.2) (by simp [e0, e1, e9, tapV]) ?_
        rw [hlt, hgt]
        rintro r w4 ⟨rfl, M4⟩
        have hc4 := (h.at (H.drew.same M4).mod).gi i hi
        replace H := H.drew.same M4
        have hgb := guess_bd (lag := lag) ⟨ht, hiff.2⟩ (hW i (by omega)) hiff.1.1
        have hwi := hW l.length (by omega) i hi
        have hg := restL_gi l lag t i hi
        refine ⟨by simp [promOk, e0, e9, hS, hp]; exact same_one hc hc4, ?_⟩
        simp
        refine app1_h slTI 1 H rfl (u := .int .i64 (gi (restL l lag t) i)) (by simp) (by omega) (by unfold maxLen; omega) (by simp (disch := omega) [wI, wU, tmod_nn, tdiv_nn, env0_0, env0_1, env0_2, env0_3, env0_4, env0_5, -env0_apply, hg]) (by simp) (by simp) (by simp) ?_
        intro vb u' w5 w6 H
        refine ⟨.inl rfl, ?_⟩
        rw [intsV_snoc, ← gi_take_snoc _ i hi'] at H
        simp (disch := omega) [wI, wU, tmod_nn, tdiv_nn, env0_0, env0_1, env0_2, env0_3, env0_4, env0_5, -env0_apply, e0, e1, e5, e9]
        exact H
      · rintro env w' ⟨e0, e1, e5, e9, H⟩
        have htk : (restL l lag t).take l.length = restL l lag t := List.take_of_length_le (by rw [restL_len]; omega)
        rw [htk] at H
        simp [e0, e9, hS, hL]
        refine ite_r (t := false) (by simp) (fun h => by cases h) (fun _ => ?_)
        simp
        refine callp (allWide2_c (l := restL l lag t) (by rw [restL_len]; exact H.rd 1 rfl) (by rw [restL_len]; exact hlm)) (by simp) ?_
        simp
        cases ha : allW (restL l lag t)
        · refine ite_r (t := true) (by simp) (fun _ => ?_) (fun h => by cases h)
          simp
          rw [restS_bad hmay (.inr ha)]
          exact RowErr.bad H.mod
        · refine ite_r (t := false) (by simp) (fun h => by cases h) (fun _ => ?_)
          simp
          rw [restS_of hmay hall ha]
          exact ⟨_, rfl, by rw [restL_len]; exact H.drop 0⟩

set_option maxHeartbeats 1000000 in
theorem longBack_c {G : Nat → Prop} {w : World} {v : Value} {l : List Int} (lag : Int) (t : List Int) (h : Rd G w v l.length (intsV l)) (hl : l.length ≤ 1000000) (ht : Taps t) :
    Calls Try.prog 17 [v, .int .i64 lag, tapV t].toArray w (Ret fun r w' => RowErr w w' r (backS l lag t)) := by
  refine F_sound c17 (by simp [fc17]) ?_
  obtain ⟨hS, hL⟩ := h.sl
  have hlm : l.length ≤ maxLen := by unfold maxLen; omega
  simp [fc17, s17]
  refine box_h (tapV t) (Hp.nil w) (by simp) ?_
  intro b w1 H M1
  obtain ⟨hb, hcs⟩ := tap_box ht (H.blk 0 rfl)
  refine ⟨.inl rfl, ?_⟩
  simp [hcs]
  refine ⟨fun j hj => by rw [hb j hj]; rfl, ?_⟩
  refine callm (longMay_c lag t ht) (by simp [tapV]) ?_
  intro w2 M2
  replace H := H.same M2
  simp
  cases hmay : mayB lag t
  · refine ite_r (t := true) (by simp) (fun _ => ?_) (fun h => by cases h)
    simp
    rw [show backS l lag t = ([], 1) by simp [backS, hmay]]
    exact RowErr.bad H.mod
  · have hiff := (mayB_iff ht).1 hmay
    refine ite_r (t := false) (by simp) (fun h => by cases h) (fun _ => ?_)
    simp
    refine callp (allWide2_c (h.at H.mod) hlm) (by simp) ?_
    simp
    cases hall : allW l
    · refine ite_r (t := true) (by simp) (fun _ => ?_) (fun h => by cases h)
      simp
      rw [backS_bad hmay (.inl hall)]
      exact RowErr.bad H.mod
    · refine ite_r (t := false) (by simp) (fun h => by cases h) (fun _ => ?_)
      simp
      refine for_r l.length (fun i env' w' => env' 0 = v ∧ env' 1 = .int .i64 lag ∧ env' 5 = .pointer (some ⟨b, 0, none⟩) ∧ env' 9 = .int .i64 i ∧
        ∃ row, row.length = i ∧ Hp w w' [.blk b (tapV t).cells, .own 3 1 (env' 8) row.length (intsV row)] ∧ allW row = true ∧ backF lag t [] l = backF lag t row (l.drop i)) ?_ ?_ ?_
      · simp
        exact ⟨H.nilS, rfl⟩
      · rintro i env w' hi ⟨e0, e1, e5, e9, row, hri, H, ha, hbk⟩
        have hc := (h.at H.mod).gi i hi
        have hp := h.some (by omega)
        obtain ⟨hb, hcs⟩ := tap_box ht (H.blk 0 rfl)
        simp [e0, e9, hS, hL]
        refine ite_r (t := true) (by simp [hi]) (fun _ => ?_) (fun h => by cases h)
        simp [wp_blk, e0, e1, e5, e9, hS, hL, hp, hc, hi, hcs]
        refine ⟨fun j hj => by rw [hb j hj]; rfl, ?_⟩
        replace H := H.drew
        refine call_r _ (longGuess_c lag t (H.rd 1 rfl) (by unfold maxLen; omega) ⟨ht, hiff.2⟩ (allW_wides ha _ (by omega)) hiff.1.1 hiff.1.2) (by simp [e0, e1, tapV]) ?_
        rw [hri]
        rintro r w4 ⟨rfl, M4⟩
        have hc4 := (h.at (H.same M4).mod).gi i hi
        replace H := H.same M4
        have hgb := guess_bd (lag := lag) ⟨ht, hiff.2⟩ (allW_wides ha i (by omega)) hiff.1.1
        have hwi := allW_wides hall l.length (by omega) i hi
        rw [drop_gi l i hi, backF, hri] at hbk
        refine ⟨by simp [promOk, e0, e9, hS, hp]; exact same_one hc hc4, ?_⟩
        simp (disch := omega) [wI, wU, tmod_nn, tdiv_nn, env0_0, env0_1, env0_2, env0_3, env0_4, env0_5, -env0_apply]
        refine callp (wide2_c (gi l i + guess row i lag t)) (by simp (disch := omega) [wI, wU, tmod_nn, tdiv_nn, env0_0, env0_1, env0_2, env0_3, env0_4, env0_5, -env0_apply]) ?_
        simp
        cases hw : wideB (gi l i + guess row i lag t)
        · refine ite_r (t := true) (by simp) (fun _ => ?_) (fun h => by cases h)
          simp
          rw [backS_bad hmay (.inr (by rw [hbk, hw]; rfl))]
          exact RowErr.bad H.mod
        · refine ite_r (t := false) (by simp) (fun h => by cases h) (fun _ => ?_)
          simp
          refine app1_h slTI 1 H rfl (u := .int .i64 (gi l i + guess row i lag t)) (by simp) (by omega) (by unfold maxLen; omega) (by simp) (by simp) (by simp) (by simp) ?_
          intro vb u' w5 w6 H
          refine ⟨.inl rfl, ?_⟩
          rw [intsV_snoc] at H
          simp (disch := omega) [wI, wU, tmod_nn, tdiv_nn, env0_0, env0_1, env0_2, env0_3, env0_4, env0_5, -env0_apply, e0, e1, e5, e9]
          exact ⟨row ++ [gi l i + guess row i lag t], by simp [hri], by simpa using H, allW_snoc ha hw, by rw [hbk, if_pos hw]⟩
      · rintro env w' ⟨e0, e1, e5, e9, row, hri, H, ha, hbk⟩
        simp [e0, e9, hS, hL]
        refine ite_r (t := false) (by simp) (fun h => by cases h) (fun _ => ?_)
        simp
        rw [backS_of hmay hall (m := row) (by rw [hbk, List.drop_length, backF])]
        exact ⟨_, rfl, H.drop 0⟩

end Go.Proofs.Ytdpnaaggjgmaiaa.VG
