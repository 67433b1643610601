/-
  Rice: the law of joined rows.
-/
import Derived.Test.YtkhjmlfnmakkpaaRi
namespace Go.Proofs.Ytkhjmlfnmakkpaa.VG
open Go
set_option linter.unusedSimpArgs false
set_option linter.unusedVariables false

theorem allW_app {l m : List Int} (hl : allW l = true) (hm : allW m = true) : allW (l ++ m) = true := by
  simp only [allW, List.all_append, Bool.and_eq_true] at *
  exact ⟨hl, hm⟩

set_option maxHeartbeats 1000000 in
theorem rjoins_c {w : World} {v u : Value} {l m : List Int} (k : Int) (h : Rd (fun b => b < w.heap.size) w v l.length (intsV l)) (g : Rd (fun b => b < w.heap.size) w u m.length (intsV m)) : Calls Try.prog 7 [.int .i64 k, v, u].toArray w (Ret fun r w' => r = .bool true ∧ Mod none' w w') := by
  refine F_sound c7 (by simp [fc7]) ?_
  obtain ⟨hS, hL⟩ := h.sl
  obtain ⟨gS, gL⟩ := g.sl
  simp [fc7, s7]
  refine callm rknown_c (by simp) ?_
  intro w1 M1
  have H := Hp.ofMod M1
  simp
  refine ite_r (t := false) (by simp) (fun h => by cases h) (fun _ => ?_)
  simp [hS, hL, gS, gL]
  by_cases hbig : (((100 : Int) < (l.length : Int) ∨ (100 : Int) < (m.length : Int)) ∨ k < 0) ∨ 25 < k
  · refine ifg_r (t := true) (by simp [hbig]) (fun h => by cases h) (fun _ => ?_)
    simp [hbig]
    refine ⟨fun _ _ _ _ => by omega, ?_⟩
    refine ifg_r (t := true) (by simp; omega) (fun h => by cases h) (fun _ => ?_)
    simp [hbig]
    refine ⟨fun _ _ _ _ => by omega, ?_⟩
    refine ite_r (t := true) (by simp; omega) (fun _ => ?_) (fun h => by cases h)
    simp
    exact M1
  refine ifg_r (t := false) (by simp; omega) (fun _ => ?_) (fun h => (h rfl).elim)
  refine callp (allWide2_c (h.at H.mod) (by unfold maxLen; omega)) (by simp) ?_
  simp [hbig]
  have hb2 : (((l.length : Int) ≤ 100 ∧ (m.length : Int) ≤ 100) ∧ 0 ≤ k) ∧ k ≤ 25 := by omega
  by_cases ha : allW l = true
  rotate_left
  · refine ifg_r (t := true) (by simp [ha]) (fun h => by cases h) (fun _ => ?_)
    simp [ha]
    refine ite_r (t := true) (by simp [ha]) (fun _ => ?_) (fun h => by cases h)
    simp
    exact M1
  refine ifg_r (t := false) (by simp [ha]; omega) (fun _ => ?_) (fun h => (h rfl).elim)
  refine callp (allWide2_c (g.at H.mod) (by unfold maxLen; omega)) (by simp) ?_
  simp [ha]
  by_cases hc : allW m = true
  rotate_left
  · refine ite_r (t := true) (by simp [hc]) (fun _ => ?_) (fun h => by cases h)
    simp
    exact M1
  refine ite_r (t := false) (by simp [hc]; omega) (fun h => by cases h) (fun _ => ?_)
  simp
  obtain ⟨K, rfl⟩ : ∃ K : Nat, k = K := ⟨k.toNat, by omega⟩
  refine wrbox_h H (by simp) ?_
  intro b w2 H M2
  refine ⟨.inl rfl, ?_⟩
  simp
  refine wrbox_h H (by simp) ?_
  intro c w3 H M3
  refine ⟨.inl rfl, ?_⟩
  simp
  refine bs_h slTI [] H rfl (by decide) (by simp) (by simp) ?_
  intro v4 w4 H M4
  refine ⟨.inl rfl, ?_⟩
  simp
  refine app_h slTI 2 H rfl (ys := intsV l) (nu := l.length) (h.at H.mod) (by simp [intsV]) (intsV_one _) (by omega) (by unfold maxLen; omega) (by simp) (by simp) ?_
  intro v5 w5 H
  refine ⟨.inl rfl, ?_⟩
  simp
  refine app_h slTI 2 H rfl (ys := intsV m) (nu := m.length) (g.at H.mod) (by simp [intsV]) (intsV_one _) (by omega) (by unfold maxLen; omega) (by simp) (by simp) ?_
  intro v6 w6 H
  refine ⟨.inl rfl, ?_⟩
  simp only [List.flatMap_nil, List.nil_append, intsV_app, Nat.zero_add, List.set_cons_succ, List.set_cons_zero, List.cons_append] at H
  simp
  obtain ⟨F, hW, hF, up, rd⟩ := H.wr 0 rfl
  obtain ⟨G, hR, hd⟩ := rd 2 _ _ _ _ _ (by decide) rfl
  refine call_h (rput_yes (l := l ++ m) hW (by simpa using hR) hd (by simp; omega) (by simp) K (by omega) (allW_app ha hc)) (by simp) ?_
  rintro r w7 ⟨rfl, A⟩
  replace H := up _ _ A
  obtain ⟨FW, hW, hFW, upW, rdW⟩ := H.wr 1 rfl
  refine call_h (rput_yes hW (h.at H.mod) hFW (by omega) (by simp) K (by omega) ha) (by simp (disch := omega) [wI, wU, tmod_nn, tdiv_nn, env0_0, env0_1, env0_2, env0_3, env0_4, env0_5, -env0_apply]) ?_
  rintro r wW ⟨rfl, AW⟩
  replace H := upW _ _ AW
  have hle := riceBs_le (show K ≤ 25 by omega) l
  have hle2 := riceBs_le (show K ≤ 25 by omega) m
  have happ := riceBs_app K l m
  have hg := getS_back (show K ≤ 25 by omega) l [] (riceBs K m) ha (by omega)
  have hg2 := getS_back (show K ≤ 25 by omega) m (riceBs K l) [] hc (by omega)
  simp at hg hg2
  rw [happ] at H
  simp at H
  obtain ⟨FW, hW, _⟩ := H.wr 1 rfl
  refine callp (len_c hW) (by simp) ?_
  simp
  obtain ⟨FW, hW, hFW, upW, rdW⟩ := H.wr 1 rfl
  refine call_h (rput_yes hW (g.at H.mod) hFW (by omega) (by omega) K (by omega) hc) (by simp (disch := omega) [wI, wU, tmod_nn, tdiv_nn, env0_0, env0_1, env0_2, env0_3, env0_4, env0_5, -env0_apply]) ?_
  rintro r wW ⟨rfl, AW⟩
  replace H := upW _ _ AW
  simp at H
  generalize riceBs K l = zl at *
  generalize riceBs K m = zm at *
  obtain ⟨FW, hW, _⟩ := H.wr 1 rfl
  refine call_h (bytes_c hW (by simp; omega)) (by simp) ?_
  intro vb w8 A
  replace H := H.newBytes A
  refine call_h (new_c (H.rd 3 rfl) (packB_fits _) (by rw [packB_length]; simp; omega)) (by simp) ?_
  rintro r w9 ⟨d, G, rfl, hR, M9, hG⟩
  replace H := H.newRr hR M9 hG
  simp
  refine ifg_r (t := false) (by simp) (fun _ => ?_) (fun h => (h rfl).elim)
  obtain ⟨FW, hW, _⟩ := H.wr 0 rfl
  refine call_h (bytes_c hW (by simp; omega)) (by simp) ?_
  intro vb w8 A
  replace H := H.newBytes A
  simp
  refine ifg_r (t := false) (by simp) (fun _ => ?_) (fun h => (h rfl).elim)
  obtain ⟨FW, hW, _⟩ := H.wr 1 rfl
  refine call_h (bytes_c hW (by simp; omega)) (by simp) ?_
  intro vb w8 A
  replace H := H.newBytes A
  simp
  refine ifg_r (t := false) (by simp) (fun _ => ?_) (fun h => (h rfl).elim)
  refine callp (same_c (H.rd 5 rfl) (H.rd 6 rfl) (packB_fits _) (packB_fits _)) (by simp) ?_
  simp
  refine ifg_r (t := false) (by simp) (fun _ => ?_) (fun h => (h rfl).elim)
  obtain ⟨FW, hW, _⟩ := H.wr 0 rfl
  refine callp (len_c hW) (by simp) ?_
  simp
  refine ifg_r (t := false) (by simp) (fun _ => ?_) (fun h => (h rfl).elim)
  obtain ⟨FW, hW, _⟩ := H.wr 1 rfl
  refine callp (len_c hW) (by simp) ?_
  simp
  refine ite_r (t := false) (by simp) (fun h => by cases h) (fun _ => ?_)
  simp [hS, hL]
  obtain ⟨F, hR, up⟩ := H.rrRow 4 rfl
  refine call_h (rget_c hR K l.length) (by simp [hS, hL]) ?_
  rw [hg]
  rintro r w10 ⟨⟨x, rfl, hu1, hu2⟩, A⟩
  replace H := up _ _ _ _ _ _ A hu1 hu2
  simp
  obtain ⟨F, hR, up⟩ := H.rrRow 4 rfl
  refine callp (at_c hR) (by simp) ?_
  simp [gS, gL]
  refine call_h (rget_c hR K m.length) (by simp [gS, gL]) ?_
  rw [hg2]
  rintro r w11 ⟨⟨y, rfl, hv1, hv2⟩, A⟩
  replace H := up _ _ _ _ _ _ A hv1 hv2
  simp
  refine ifg_r (t := true) (by simp) (fun _ => ?_) (fun h => (h rfl).elim)
  refine callm (sameInts_c (l := l) (m := l) (H.rd 7 rfl) (h.at H.mod) (by unfold maxLen; omega)) (by simp (disch := omega) [wI, wU, tmod_nn, tdiv_nn, env0_0, env0_1, env0_2, env0_3, env0_4, env0_5, -env0_apply]) ?_
  intro w' M'
  replace H := H.same M'
  simp
  refine ifg_r (t := true) (by simp) (fun _ => ?_) (fun h => (h rfl).elim)
  refine callm (sameInts_c (l := m) (m := m) (H.rd 8 rfl) (g.at H.mod) (by unfold maxLen; omega)) (by simp (disch := omega) [wI, wU, tmod_nn, tdiv_nn, env0_0, env0_1, env0_2, env0_3, env0_4, env0_5, -env0_apply]) ?_
  intro w' M'
  replace H := H.same M'
  simp
  exact H.mod

end Go.Proofs.Ytkhjmlfnmakkpaa.VG
