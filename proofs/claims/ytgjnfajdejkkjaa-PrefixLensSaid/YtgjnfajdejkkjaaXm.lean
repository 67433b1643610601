/-
  The law of the lengths.
-/
import Derived.Test.YtgjnfajdejkkjaaXl
namespace Go.Proofs.Ytgjnfajdejkkjaa.VG
open Go
set_option linter.unusedSimpArgs false
set_option linter.unusedVariables false
set_option maxRecDepth 20000

theorem lq_le (freq : List Int) (most : Int) : (lenQ freq most).length ≤ 1024 := by
  by_cases h : lenE freq most = 0
  · obtain ⟨_, _, _, _, _, h2, _⟩ := lq_ok h
    rw [lq_len h]; exact h2
  · unfold lenQ
    rw [if_pos h]; simp

set_option maxHeartbeats 4000000 in
theorem plens_law {F : Nat → Prop} {w : World} {v : Value} {freq : List Int} (most : Int) (hr : Rd F w v freq.length (intsV freq)) (hm : freq.length ≤ maxLen) :
    Calls Try.prog 3 [v, .int .i64 most].toArray w (Ret fun r w' => r = .bool true ∧ Mod none' w w') := by
  refine F_sound c3 (by simp [fc3]) ?_
  obtain ⟨hS, hL⟩ := hr.sl
  simp [fc3, s3]
  refine callm known_c (by simp) ?_
  intro w1 M1
  have H := Hp.ofMod M1
  simp
  refine ite_r (t := false) (by simp) (fun h => by cases h) (fun _ => ?_)
  simp [hS, hL]
  by_cases hbig : 80 < freq.length ∧ freq.length ≤ 1024
  · refine ite_r (t := true) (by simp; omega) (fun _ => ?_) (fun h => by cases h)
    simp
    exact M1
  refine ite_r (t := false) (by simp; omega) (fun h => by cases h) (fun _ => ?_)
  simp
  have hle := lq_le freq most
  refine call_h (lengths_c most (hr.at H.mod) (by omega) hm) (by simp) ?_
  rintro r w2 ⟨va, rfl, HL⟩
  replace H : Hp w w2 [.own 3 1 va (lenQ freq most).length (intsV (lenQ freq most))] := H.join HL
  clear HL
  simp
  refine call_h (dlens_c most (hr.at H.mod) (by omega) hm) (by simp) ?_
  rintro r w3 ⟨vb, rfl, HL⟩
  replace H : Hp w w3 [.own 3 1 va (lenQ freq most).length (intsV (lenQ freq most)), .own 3 1 vb (lenQ freq most).length (intsV (lenQ freq most))] := H.join HL
  clear HL
  simp
  generalize lenQ freq most = l at *
  refine callm (sameInts_c (l := l) (m := l) (H.rd 0 rfl) (H.rd 1 rfl) (by unfold maxLen; omega)) (by simp (disch := omega) [wI, wU, tmod_nn, tdiv_nn, env0_0, env0_1, env0_2, env0_3, env0_4, env0_5, -env0_apply]) ?_
  intro w' M'
  replace H := H.same M'
  simp
  exact H.mod

end Go.Proofs.Ytgjnfajdejkkjaa.VG
