/-
  Parts: laws of one part, of sizes.
-/
import Derived.Test.YtajkofndbeohpaaPn
namespace Go.Proofs.Ytajkofndbeohpaa.VG
open Go
set_option linter.unusedSimpArgs false
set_option linter.unusedVariables false

theorem cost_one_plan {k : Int} {l : List Int} (hk : paramB k = true) (hl : 0 < l.length) (hl2 : l.length ≤ 4096) (ha : allW l = true) : costP 0 [k] l.length 0 l = 9 + sumI k l := by
  have hr : rowB (l.length : Int) 0 = true := rowB_iff.2 (by omega)
  have hp : pw 0 = 1 := rfl
  have hB : szB 0 (l.length : Int) 0 = true := szB_iff.2 ⟨hr, by omega, by rw [hp]; omega, by rw [hp]; omega⟩
  have hs : szS 0 (l.length : Int) 0 = [(l.length : Int)] := by
    rw [szS, if_pos hB, hp]
    simp
  have hm : mayB 0 [k] (l.length : Int) 0 = true := by simp [mayB, hB, hs, okK, hk]
  have hri : rightB (l.length : Int) 0 l = true := by simp [rightB, hr, ha]
  have hk31 : ¬ k = 31 := by have := paramB_iff.1 hk; omega
  rw [costP, if_pos ⟨hm, hri⟩, hs]
  have hpart : partI [(l.length : Int)] l 0 = l := by simp [partI, atI, gi]
  show costTo [k] [(l.length : Int)] l 1 = _
  simp only [costTo, hpart]
  have : gi [k] 0 = k := rfl
  rw [this, pcostI, if_neg hk31]
  omega

set_option maxHeartbeats 2000000 in
theorem pone_law {w : World} {v : Value} {l : List Int} (k : Int) (hv : Rc (fun k => k < w.heap.size) w v l.length (intsV l)) :
    Calls Try.prog 6 [.int .i64 k, v].toArray w (Ret fun r w' => r = .bool true ∧ Mod none' w w') := by
  refine F_sound c6 (by simp [fc6]) ?_
  obtain ⟨hS, hL⟩ := hv.rd.sl
  simp [fc6, s6]
  refine callm pknown_c (by simp) ?_
  intro w1 M1
  have H := Hp.ofMod M1
  simp
  refine ite_r (t := false) (by simp) (fun h => by cases h) (fun _ => ?_)
  simp [hS, hL]
  have hnz : l = [] ↔ l.length = 0 := List.length_eq_zero_iff.symm
  by_cases hbig : ((200 < l.length ∨ l.length = 0) ∨ k < 0) ∨ 25 < k
  · refine ifg_r (t := true) (by simp [-List.length_eq_zero_iff, hnz]; omega) (fun h => by cases h) (fun _ => ?_)
    simp [-List.length_eq_zero_iff, hnz]
    refine ⟨fun _ _ _ _ => by omega, ?_⟩
    refine ite_r (t := true) (by simp [-List.length_eq_zero_iff, hnz]; omega) (fun _ => ?_) (fun h => by cases h)
    simp
    exact M1
  refine ifg_r (t := false) (by simp [-List.length_eq_zero_iff, hnz]; omega) (fun _ => ?_) (fun h => (h rfl).elim)
  refine callp (allWide2_c (hv.rd.at H.mod) (by unfold maxLen; omega)) (by simp) ?_
  simp
  by_cases ha : allW l = true
  rotate_left
  · refine ite_r (t := true) (by simp [ha]) (fun _ => ?_) (fun h => by cases h)
    simp
    exact M1
  refine ite_r (t := false) (by simp [-List.length_eq_zero_iff, ha, hnz]; omega) (fun h => by cases h) (fun _ => ?_)
  simp
  refine bs_h slTI [.int .i64 k] H rfl (by decide) (by simp) (by simp [Value.cells]) ?_
  intro kv w2 H M2
  refine ⟨.inl rfl, ?_⟩
  have hkr : Rd (fun k => w.heap.size ≤ k) w2 kv 1 (intsV [k]) := by simpa [intsV, Value.cells] using H.rd 0 rfl
  have hkc : kv.cells = #[kv] := by obtain ⟨cap, hv⟩ := hkr.is; rw [hv]; rfl
  have hp : paramB k = true := paramB_iff.2 (by omega)
  simp [hkc, hS, hL]
  have hv2 := hv.at H.mod
  have hv3 : Rc (fun _ => True) w2 v l.length (intsV l) := ⟨hv2.rd.mono fun _ _ => trivial, hv2.cap, hv2.len⟩
  have hk3 : Rd (fun _ => True) w2 kv 1 (intsV [k]) := hkr.mono fun _ _ => trivial
  refine callm (cost_p (ks := [k]) 0 l.length 0 hk3 (by simp) hv3 (by omega)) (by simp (disch := omega) [wI, wU, tmod_nn, tdiv_nn, env0_0, env0_1, env0_2, env0_3, env0_4, env0_5, -env0_apply, planV, hkc, hS, hL, putAt]) ?_
  intro w' M'
  replace H := H.same M'
  rw [cost_one_plan hp (by omega) (by omega) ha]
  refine callp (sum_c k (hv.rd.at H.mod) (by omega)) (by simp) ?_
  have hb := sumI_bd k l
  have hw : IntKind.i64.wrap (9 + sumI k l) = 9 + sumI k l := wI (by omega) (by omega)
  simp [hw]
  exact H.mod

end Go.Proofs.Ytajkofndbeohpaa.VG
