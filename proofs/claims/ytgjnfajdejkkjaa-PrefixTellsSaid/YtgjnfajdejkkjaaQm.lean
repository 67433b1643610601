/-
  The law of what codes are.
-/
import Derived.Test.YtgjnfajdejkkjaaQl
namespace Go.Proofs.Ytgjnfajdejkkjaa.VG
open Go
set_option linter.unusedSimpArgs false
set_option linter.unusedVariables false
set_option maxRecDepth 20000

set_option maxHeartbeats 4000000 in
theorem ptells_law {F G : Nat → Prop} {w : World} {v u : Value} {l f : List Int} (hr : Rd F w v l.length (intsV l)) (hq : Rd G w u f.length (intsV f)) (hlm : l.length ≤ maxLen) (hfm : f.length ≤ maxLen) :
    Calls Try.prog 6 [v, u].toArray w (Ret fun r w' => r = .bool true ∧ Mod none' w w') := by
  refine F_sound c6 (by simp [fc6]) ?_
  obtain ⟨hS, hL⟩ := hr.sl
  obtain ⟨kS, kL⟩ := hq.sl
  simp [fc6, s6]
  refine callm known_c (by simp) ?_
  intro w1 M1
  have H := Hp.ofMod M1
  simp
  refine ite_r (t := false) (by simp) (fun h => by cases h) (fun _ => ?_)
  simp [hS, hL, kS, kL]
  by_cases hbig : l.length ≤ 1100 ∧ f.length ≤ 1100
  · refine ite_r (t := false) (by simp; omega) (fun h => by cases h) (fun _ => ?_)
    simp
    refine call_h (codes_c (hr.at H.mod) (by omega)) (by simp) ?_
    rintro r w2 ⟨vc, rfl, HC⟩
    replace H := H.join HC
    simp
    refine call_h (codes2_c (hr.at H.mod) (by omega)) (by simp) ?_
    rintro r w3 ⟨vd, rfl, HD⟩
    replace H := H.join HD
    replace H : Hp w w3 [.own 33 1 vc (codesP l).length (wdsV (codesP l)), .own 33 1 vd (codesP l).length (wdsV (codesP l))] := H
    have hcl : (codesP l).length ≤ 1000000 := by
      unfold codesP
      split
      · rw [show (cdW l).length = l.length from cdN_len l _]; omega
      · simp
    have hr3 := hr.at H.mod
    have hq3 := hq.at H.mod
    simp
    refine for_r (min f.length l.length) (fun i env' w' => w' = w3 ∧ env' 0 = v ∧ env' 1 = u ∧ env' 5 = vc ∧ env' 6 = .int .i64 (erP l) ∧ env' 7 = vd ∧ env' 8 = .int .i64 (erP l) ∧ env' 9 = .int .i64 i) ?_ ?_ ?_
    · simp
    · rintro i env w4 hi ⟨rfl, e0, e1, e5, e6, e7, e8, e9⟩
      have wi : IntKind.i64.wrap ((i : Int) + 1) = ((i + 1 : Nat) : Int) := by rw [wI (by omega) (by omega)]; omega
      have ca := hr3.gi i (by omega)
      have cb := hq3.gi i (by omega)
      have pa := hr3.some (by omega)
      have pb := hq3.some (by omega)
      have hil : i < l.length := by omega
      have hif : i < f.length := by omega
      generalize gi l i = x at *
      generalize gi f i = y at *
      simp [e0, e1, e9, hS, hL, kS, kL]
      refine ite_r (t := true) (by simp; omega) (fun _ => ?_) (fun h => by cases h)
      simp [wp_blk, e0, e1, e9, hS, hL, kS, kL, ca, cb, pa, pb, hil, hif]
      by_cases hgood : (0 ≤ y ∧ y ≤ 1099511627776) ∧ 0 ≤ x ∧ x ≤ 64
      · refine ite_r (t := false) (by simp; omega) (fun h => by cases h) (fun _ => ?_)
        simp [e9, wi]
        exact ⟨e0, e1, e5, e6, e7, e8⟩
      · refine ite_r (t := true) (by simp; omega) (fun _ => ?_) (fun h => by cases h)
        refine callp (full_c hr3 (by omega)) (by simp [e0]) ?_
        refine callp (full2_c hr3 (by omega)) (by simp [e0]) ?_
        simp
        refine ifg_r (t := true) (by simp) (fun _ => ?_) (fun h => (h rfl).elim)
        refine callm (sameWords_c (H.rd 0 rfl) (H.rd 1 rfl) hcl) (by simp [e5, e7]) ?_
        intro w5 M5
        simp [e6, e8]
        exact (H.same M5).mod
    · rintro env w4 ⟨rfl, e0, e1, e5, e6, e7, e8, e9⟩
      simp [e0, e1, e9, hS, hL, kS, kL]
      refine ite_r (t := false) (by simp; omega) (fun h => by cases h) (fun _ => ?_)
      simp
      refine callp (full_c hr3 (by omega)) (by simp [e0]) ?_
      refine callp (full2_c hr3 (by omega)) (by simp [e0]) ?_
      simp
      refine ifg_r (t := true) (by simp) (fun _ => ?_) (fun h => (h rfl).elim)
      refine callm (sameWords_c (H.rd 0 rfl) (H.rd 1 rfl) hcl) (by simp [e5, e7]) ?_
      intro w5 M5
      replace H := H.same M5
      simp [e6, e8]
      refine ifg_r (t := true) (by simp) (fun _ => ?_) (fun h => (h rfl).elim)
      refine callm (total_c (hq.at H.mod) (hr.at H.mod) (by omega) (by omega)) (by simp [e0, e1]) ?_
      intro w6 M6
      replace H := H.same M6
      simp
      refine ifg_r (t := true) (by simp) (fun _ => ?_) (fun h => (h rfl).elim)
      refine callm (total2_c (hq.at H.mod) (hr.at H.mod) (by omega) (by omega)) (by simp [e0, e1]) ?_
      intro w7 M7
      replace H := H.same M7
      simp
      exact H.mod
  · refine ite_r (t := true) (by simp; omega) (fun _ => ?_) (fun h => by cases h)
    simp
    exact H.mod

end Go.Proofs.Ytgjnfajdejkkjaa.VG
