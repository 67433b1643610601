/-
  Long: the document's Tune; the law LongFinds.
-/
import Derived.Test.YtdpnaaggjgmaiaaLh
namespace Go.Proofs.Ytdpnaaggjgmaiaa.VG
open Go
set_option linter.unusedSimpArgs false
set_option linter.unusedVariables false

def tuneE (o : Option (Nat × Int)) : Int × Int := match o with | none => (-1, 0) | some (j, s) => (j, s)

set_option maxHeartbeats 2000000 in
theorem longTune_c {G : Nat → Prop} {w : World} {v : Value} {l : List Int} (lag : Int) (h : Rd G w v l.length (intsV l)) (hcap : l.length ≤ slC v) (hl : l.length ≤ 1000000) :
    Calls Try.prog 22 [v, .int .i64 lag].toArray w (Ret fun r w' => ArrErr w w' r (tuneS l lag)) := by
  refine F_sound c22 (by simp [fc22]) ?_
  obtain ⟨hS, hL⟩ := h.sl
  have hz3 := tap_cells (t := [0, 0, 0]) rfl
  obtain ⟨i3, hi3, hz3'⟩ : ∃ i, Try.prog.info? 23 = some i ∧ i.zero = some (tapV [0, 0, 0]) := ⟨_, rfl, rfl⟩
  simp only [fc22, s22, zeroT]
  refine alloc_h (Hp.nil w) hi3 hz3' ?_
  intro b w1 H M1
  refine ⟨.inl rfl, ?_⟩
  simp
  by_cases hlag : lag < 2 ∨ 1024 < lag
  · refine ite_r (t := true) (by simp; omega) (fun _ => ?_) (fun h => by cases h)
    refine stAll_h 0 H rfl (v := tapV [0, 0, 0]) (by simp) (by simp) hz3.1 hz3.1 hz3.2 ?_
    intro w2 H
    refine ⟨.inl rfl, ?_⟩
    obtain ⟨hb, hcs⟩ := tap_box (t := [0, 0, 0]) rfl (H.blk 0 rfl)
    simp [hcs]
    exact ⟨fun j hj => by rw [hb j hj]; rfl, by simp [tuneS, hlag, tapV], H.mod⟩
  refine ite_r (t := false) (by simp; omega) (fun h => by cases h) (fun _ => ?_)
  simp
  refine call_h longTable_c (by simp) ?_
  intro tv w4 h4
  replace H := H.join h4
  simp
  refine for_r 9 (fun i env' w' => env' 0 = v ∧ env' 1 = .int .i64 lag ∧ env' 4 = .pointer (some ⟨b, 0, none⟩) ∧ env' 6 = tv ∧ env' 9 = .int .i64 i ∧ env' 7 = .int .i64 (tuneE (tuneF l lag i)).1 ∧ env' 8 = .int .i64 (tuneE (tuneF l lag i)).2 ∧
    Hp w w' [.blk b (tapV [0, 0, 0]).cells, .own 23 3 tv 9 (tabL.flatMap intsV)]) ?_ ?_ ?_
  · simp [tuneF, tuneE]
    exact H
  · rintro i env w' hi ⟨e0, e1, e4, e6, e9, e7, e8, H⟩
    obtain ⟨⟨q1, q2, q3⟩, q4, q5⟩ := tab_cells (w := w) 1 H rfl i hi
    simp [e6, e9, q1, q2]
    refine ite_r (t := true) (by simp; omega) (fun _ => ?_) (fun h => by cases h)
    simp [wp_blk, e6, e9, q1, q2, q3, q5]
    refine ⟨by omega, fun j hj => by rw [add_add, q4 j hj]; rfl, ?_⟩
    refine call_h (longRest_c lag (tabAt i) (h.at H.mod) hcap hl (tabAt_taps i)) (by simp [tapV, e0, e1]) ?_
    rintro r w7 ⟨u, rfl, hu⟩
    replace H := H.join hu
    simp
    have hwS := restS_wide l lag (tabAt i)
    have hlen := restS_len l lag (tabAt i)
    have hbd := tuneF_bd l lag hl i
    have hF : tuneF l lag (i + 1) = if (restS l lag (tabAt i)).2 = 0 then
        (match tuneF l lag i with
        | none => some (i, asum (restS l lag (tabAt i)).1 (restS l lag (tabAt i)).1.length)
        | some (j, s) => if asum (restS l lag (tabAt i)).1 (restS l lag (tabAt i)).1.length < s then some (i, asum (restS l lag (tabAt i)).1 (restS l lag (tabAt i)).1.length) else some (j, s))
      else tuneF l lag i := rfl
    generalize restS l lag (tabAt i) = R at *
    obtain ⟨ru, re⟩ := R
    simp only at *
    refine callm (total_c (H.rd 2 rfl) (by omega) hwS) (by simp) ?_
    intro w8 M8
    replace H := H.same M8
    simp [e7, e8]
    by_cases hre : re = 0
    · subst hre
      cases hT : tuneF l lag i with
      | none =>
        rw [hT] at hF
        simp only [tuneE]
        refine ite_r (t := true) (by simp) (fun _ => ?_) (fun h => by cases h)
        simp (disch := omega) [wI, wU, tmod_nn, tdiv_nn, env0_0, env0_1, env0_2, env0_3, env0_4, env0_5, -env0_apply, hF, tuneE, e0, e1, e4, e6, e9]
        exact H.drop 2
      | some js =>
        obtain ⟨j, s⟩ := js
        rw [hT] at hF
        have := hbd j s hT
        simp only [tuneE]
        by_cases hlt : asum ru ru.length < s
        · refine ite_r (t := true) (by simp [hlt]) (fun _ => ?_) (fun h => by cases h)
          simp (disch := omega) [wI, wU, tmod_nn, tdiv_nn, env0_0, env0_1, env0_2, env0_3, env0_4, env0_5, -env0_apply, hF, hlt, tuneE, e0, e1, e4, e6, e9]
          exact H.drop 2
        · refine ite_r (t := false) (by simp; exact ⟨decide_eq_false (by omega), decide_eq_false (by omega)⟩) (fun h => by cases h) (fun _ => ?_)
          simp (disch := omega) [wI, wU, tmod_nn, tdiv_nn, env0_0, env0_1, env0_2, env0_3, env0_4, env0_5, -env0_apply, hF, hlt, tuneE, e0, e1, e4, e6, e7, e8, e9, hT]
          exact H.drop 2
    · refine ite_r (t := false) (by simp [hre]) (fun h => by cases h) (fun _ => ?_)
      simp (disch := omega) [wI, wU, tmod_nn, tdiv_nn, env0_0, env0_1, env0_2, env0_3, env0_4, env0_5, -env0_apply, hF, hre, e0, e1, e4, e6, e7, e8, e9]
      exact H.drop 2
  · rintro env w' ⟨e0, e1, e4, e6, e9, e7, e8, H⟩
    obtain ⟨⟨q1, q2, q3⟩, _, _⟩ := tab_cells (w := w) 1 H rfl 0 (by omega)
    simp [e6, e9, q1, q2]
    refine ite_r (t := false) (by simp) (fun h => by cases h) (fun _ => ?_)
    cases hT : tuneF l lag 9 with
    | none =>
      simp [e7, hT, tuneE]
      refine ite_r (t := true) (by simp) (fun _ => ?_) (fun h => by cases h)
      refine stAll_h 0 H rfl (v := tapV [0, 0, 0]) (by simp [e4]) (by simp) hz3.1 hz3.1 hz3.2 ?_
      intro w2 H
      refine ⟨.inl rfl, ?_⟩
      obtain ⟨hb, hcs⟩ := tap_box (t := [0, 0, 0]) rfl (H.blk 0 rfl)
      simp [hcs, e4]
      exact ⟨fun j hj => by rw [hb j hj]; rfl, by simp [tuneS, hlag, hT, tapV], H.mod⟩
    | some js =>
      obtain ⟨j, s⟩ := js
      have hj := tuneF_bd l lag hl 9 j s hT
      obtain ⟨_, q4, q5⟩ := tab_cells (w := w) 1 H rfl j hj.1
      simp [e7, hT, tuneE]
      refine ite_r (t := false) (by simp) (fun h => by cases h) (fun _ => ?_)
      simp [e6, e7, hT, tuneE, q1, q2, q3, q5]
      refine ⟨by omega, fun j hj => by rw [add_add, q4 j hj]; rfl, ?_⟩
      refine stAll_h 0 H rfl (v := tapV (tabAt j)) (by simp [e4]) (by simp [tapV]) (tap_cells (tabAt_taps j)).1 hz3.1 (tap_cells (tabAt_taps j)).2 ?_
      intro w2 H
      refine ⟨.inl rfl, ?_⟩
      obtain ⟨hb, hcs⟩ := tap_box (tabAt_taps j) (H.blk 0 rfl)
      simp [hcs, e4]
      exact ⟨fun j hj => by rw [hb j hj]; rfl, by simp [tuneS, hlag, hT, tapV], H.mod⟩

theorem tuneS_taps (l : List Int) (lag : Int) : Taps (tuneS l lag).1 := by
  unfold tuneS
  split
  · rfl
  split
  · rfl
  · exact tabAt_taps _

set_option maxHeartbeats 1000000 in
theorem finds_c {w : World} {v : Value} {l : List Int} (h : Rd (fun k => k < w.heap.size) w v l.length (intsV l)) (hcap : l.length ≤ slC v) (hl : l.length ≤ maxLen) (least most lag : Int) :
    Calls Try.prog 9 [v, .int .i64 least, .int .i64 most, .int .i64 lag].toArray w (Ret fun r w' => r = .bool true ∧ Mod none' w w') := by
  refine F_sound c9 (by simp [fc9]) ?_
  obtain ⟨hS, hL⟩ := h.sl
  simp [fc9, s9]
  refine callm lknown_c (by simp) ?_
  intro w1 M1
  have H := Hp.ofMod M1
  simp
  refine ite_r (t := false) (by simp) (fun h => by cases h) (fun _ => ?_)
  simp [hS, hL]
  by_cases hb1 : 200 < l.length ∧ l.length ≤ 4096
  · refine ite_r (t := true) (by simp; omega) (fun _ => ?_) (fun h => by cases h)
    simp [M1]
  refine ite_r (t := false) (by simp; omega) (fun h => by cases h) (fun _ => ?_)
  simp
  refine callm (find_c least most (h.at H.mod) hl) (by simp) ?_
  intro w2 M2
  replace H := H.same M2
  simp
  refine callm (longFind_c least most (h.at H.mod) hl) (by simp) ?_
  intro w3 M3
  replace H := H.same M3
  simp
  refine ite_r (t := false) (by simp) (fun h => by cases h) (fun _ => ?_)
  simp [hS, hL]
  by_cases hb2 : 200 < l.length
  · refine ite_r (t := true) (by simp; omega) (fun _ => ?_) (fun h => by cases h)
    simp [H.mod]
  refine ite_r (t := false) (by simp; omega) (fun h => by cases h) (fun _ => ?_)
  simp
  refine call_h (tune_c lag (h.at H.mod) (by omega)) (by simp) ?_
  rintro r w4 ⟨rfl, M4⟩
  replace H := H.same M4
  obtain ⟨i3, hi3, hz3'⟩ : ∃ i, Try.prog.info? 23 = some i ∧ i.zero = some (tapV [0, 0, 0]) := ⟨_, rfl, rfl⟩
  have hz3 := tap_cells (t := [0, 0, 0]) rfl
  have hT := tuneS_taps l lag
  have hTc := tap_cells hT
  simp
  refine alloc_h H hi3 hz3' ?_
  intro b5 w5 H M5
  refine ⟨.inl rfl, ?_⟩
  refine stAll_h 0 H rfl (v := tapV (tuneS l lag).1) (by simp) (by simp) hTc.1 hz3.1 hTc.2 ?_
  intro w6 H
  refine ⟨.inl rfl, ?_⟩
  simp
  refine call_h (longTune_c lag (h.at H.mod) hcap (by omega)) (by simp) ?_
  rintro r w7 ⟨rfl, M7⟩
  replace H := H.same M7
  simp
  refine alloc_h H hi3 hz3' ?_
  intro b8 w8 H M8
  refine ⟨.inl rfl, ?_⟩
  refine stAll_h 1 H rfl (v := tapV (tuneS l lag).1) (by simp) (by simp) hTc.1 hz3.1 hTc.2 ?_
  intro w9 H
  refine ⟨.inl rfl, ?_⟩
  obtain ⟨ha, hac⟩ := tap_box hT (H.blk 0 rfl)
  obtain ⟨hb, hbc⟩ := tap_box hT (H.blk 1 rfl)
  simp [hac, hbc]
  refine ⟨fun j hj => by rw [ha j hj]; rfl, fun j hj => by rw [hb j hj]; rfl, ?_⟩
  refine eq_r (xs := (intsV (tuneS l lag).1).toArray) (ys := (intsV (tuneS l lag).1).toArray) (by kernel_rfl) (by simp) (by simp) (eq_arr (e := 3) (kd := .i64) (n := 3) (by kernel_rfl) (i := _) rfl (by kernel_rfl) (by kernel_rfl) _ _ hT hT) ?_
  simp
  exact H.mod

end Go.Proofs.Ytdpnaaggjgmaiaa.VG
