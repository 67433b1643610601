/-
  Long: Rest and Back, the program's: what each call comes to.
-/
import Derived.Test.YtdpnaaggjgmaiaaLc
namespace Go.Proofs.Ytdpnaaggjgmaiaa.VG
open Go
set_option linter.unusedSimpArgs false
set_option linter.unusedVariables false

/-- A row of one's own, and an error. -/
def RowErr (w w' : World) (r : Value) (s : List Int × Int) : Prop := ∃ u, r = .tuple #[u, .int .i64 s.2] ∧ Hp w w' [.own 3 1 u s.1.length (intsV s.1)]
theorem RowErr.bad {w w' : World} {e : Int} (m : Mod none' w w') : RowErr w w' (.tuple #[.slice none 0 0, .int .i64 e]) ([], e) :=
  ⟨_, rfl, by simpa using (Hp.ofMod m).nilS (e := 3) (size := 1)⟩

theorem restS_of {l : List Int} {lag : Int} {t : List Int} (h1 : mayB lag t = true) (h2 : allW l = true) (h3 : allW (restL l lag t) = true) : restS l lag t = (restL l lag t, 0) := by
  simp [restS, h1, h2, h3]
theorem restS_bad {l : List Int} {lag : Int} {t : List Int} (h1 : mayB lag t = true) (h3 : allW l = false ∨ allW (restL l lag t) = false) : restS l lag t = ([], 6) := by
  rcases h3 with h3 | h3 <;> simp [restS, h1, h3]

set_option maxHeartbeats 1000000 in
theorem rest_c {G : Nat → Prop} {w : World} {v : Value} {l : List Int} (lag : Int) (t : List Int) (h : Rd G w v l.length (intsV l)) (hl : l.length ≤ 1000000) (ht : Taps t) :
    Calls Try.prog 11 [v, .int .i64 lag, tapV t].toArray w (Ret fun r w' => RowErr w w' r (restS l lag t)) := by
  refine F_sound c11 (by simp [fc11]) ?_
  obtain ⟨hS, hL⟩ := h.sl
  have hlm : l.length ≤ maxLen := by unfold maxLen; omega
  simp [fc11, s11]
  refine box_h (tapV t) (Hp.nil w) (by simp) ?_
  intro b w1 H M1
  obtain ⟨hb, hcs⟩ := tap_box ht (H.blk 0 rfl)
  refine ⟨.inl rfl, ?_⟩
  simp [hcs]
  refine ⟨fun j hj => by rw [hb j hj]; rfl, ?_⟩
  refine callm (may_c lag t ht) (by simp [tapV]) ?_
  intro w2 M2
  replace H := H.same M2
  simp
  cases hmay : mayB lag t
  · refine ite_r (t := true) (by simp) (fun _ => ?_) (fun h => by cases h)
    simp
    rw [show restS l lag t = ([], 1) by simp [restS, hmay]]
    exact RowErr.bad H.mod
  · have hiff := (mayB_iff ht).1 hmay
    refine ite_r (t := false) (by simp) (fun h => by cases h) (fun _ => ?_)
    simp
    refine callp (allWide_c (h.at H.mod) hlm) (by simp) ?_
    simp
    cases hall : allW l
    · refine ite_r (t := true) (by simp) (fun _ => ?_) (fun h => by cases h)
      simp
      rw [restS_bad hmay (.inl hall)]
      exact RowErr.bad H.mod
    · have hW : ∀ n, n ≤ l.length → Wides l n := fun n hn i hi => allW_gi hall i (by omega)
      refine ite_r (t := false) (by simp) (fun h => by cases h) (fun _ => ?_)
      simp [hS, hL]
      refine mk0_h slTI (kl := .i64) (kc := .i64) (c := l.length) H (by simp) (by simp [hL]) (by omega) (by omega) (by omega) (by omega) ?_
      intro u w3 H M3
      refine ⟨.inl rfl, ?_⟩
      simp [hS, hL]
      refine for_r l.length (fun i env' w' => env' 0 = v ∧ env' 1 = .int .i64 lag ∧ env' 5 = .pointer (some ⟨b, 0, none⟩) ∧ env' 22 = v ∧ env' 23 = .int .i64 l.length ∧ env' 24 = .int .i64 i ∧
        Hp w w' [.blk b (tapV t).cells, .own 3 1 (env' 8) i (intsV ((restL l lag t).take i))] ∧ allW ((restL l lag t).take i) = true) ?_ ?_ ?_
      · simp [allW]
        exact H
      · rintro i env w' hi ⟨e0, e1, e5, e22, e23, e24, H, ha⟩
        have hi' : i < (restL l lag t).length := by rw [restL_len]; exact hi
        have hc := (h.at H.mod).gi i hi
        have hp := h.some (by omega)
        obtain ⟨hb, hcs⟩ := tap_box ht (H.blk 0 rfl)
        simp [e23, e24]
        refine ite_r (t := true) (by simp [hi]) (fun _ => ?_) (fun h => by cases h)
        simp [wp_blk, e0, e1, e5, e22, e24, hS, hL, hp, hc, hi, hcs]
        refine ⟨fun j hj => by rw [hb j hj]; rfl, ?_⟩
        refine callm (predict_c i lag t (h.at H.mod) hlm (by omega) ⟨ht, hiff.2⟩ (hW i (by omega)) hiff.1.1 hiff.1.2) (by simp [e0, e1, tapV]) ?_
        intro w4 M4
        replace H := H.same M4
        have hgb := guess_bd (lag := lag) ⟨ht, hiff.2⟩ (hW i (by omega)) hiff.1.1
        have hwi := hW l.length (by omega) i hi
        have hg := restL_gi l lag t i hi
        simp (disch := omega) [wI, wU, tmod_nn, tdiv_nn, env0_0, env0_1, env0_2, env0_3, env0_4, env0_5, -env0_apply]
        refine callp (wide_c (gi l i - guess l i lag t)) (by simp (disch := omega) [wI, wU, tmod_nn, tdiv_nn, env0_0, env0_1, env0_2, env0_3, env0_4, env0_5, -env0_apply]) ?_
        rw [← hg]
        simp
        cases hw : wideB (gi (restL l lag t) i)
        · refine ite_r (t := true) (by simp) (fun _ => ?_) (fun h => by cases h)
          simp
          rw [restS_bad hmay (.inr (allW_not hi' hw))]
          exact RowErr.bad H.mod
        · refine ite_r (t := false) (by simp) (fun h => by cases h) (fun _ => ?_)
          simp
          refine app1_h slTI 1 H rfl (u := .int .i64 (gi (restL l lag t) i)) (by simp) (by omega) (by unfold maxLen; omega) (by simp [hg]) (by simp) (by simp) (by simp) ?_
          intro vb u' w5 w6 H
          refine ⟨.inl rfl, ?_⟩
          rw [intsV_snoc, ← gi_take_snoc _ i hi'] at H
          simp (disch := omega) [wI, wU, tmod_nn, tdiv_nn, env0_0, env0_1, env0_2, env0_3, env0_4, env0_5, -env0_apply, e0, e1, e5, e22, e23, e24]
          exact ⟨H, by rw [allW_take ha hi', hw]⟩
      · rintro env w' ⟨e0, e1, e5, e22, e23, e24, H, ha⟩
        have htk : (restL l lag t).take l.length = restL l lag t := List.take_of_length_le (by rw [restL_len]; omega)
        rw [htk] at H ha
        simp [e23, e24]
        refine ite_r (t := false) (by simp) (fun h => by cases h) (fun _ => ?_)
        simp
        rw [restS_of hmay hall ha]
        exact ⟨_, rfl, by rw [restL_len]; exact H.drop 0⟩

end Go.Proofs.Ytdpnaaggjgmaiaa.VG
