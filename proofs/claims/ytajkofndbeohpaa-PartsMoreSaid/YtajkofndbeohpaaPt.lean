/-
  Parts: laws of the best plan.
-/
import Derived.Test.YtajkofndbeohpaaPs
namespace Go.Proofs.Ytajkofndbeohpaa.VG
open Go
set_option linter.unusedSimpArgs false
set_option linter.unusedVariables false

theorem Rc.top {F : Nat → Prop} {w : World} {v : Value} {n : Nat} {xs : List Value} (h : Rc F w v n xs) : Rc (fun _ => True) w v n xs := ⟨h.rd.mono fun _ _ => trivial, h.cap, h.len⟩
theorem Rd.top {F : Nat → Prop} {w : World} {v : Value} {n : Nat} {xs : List Value} (h : Rd F w v n xs) : Rd (fun _ => True) w v n xs := h.mono fun _ _ => trivial
theorem bestP_len {n wm most : Int} {l : List Int} (hl : l.length ≤ 1000000) : (bestP n wm most l).1.2.length ≤ 256 := by
  cases hr : rightB n wm l
  · rw [bestP, if_neg (by rw [hr]; simp)]; simp
  · obtain ⟨o, ks, h1, h2, h3, _⟩ := best_is most hr hl
    rw [h1]
    have := (may_iff.1 h3).2.1
    have := szS_le o n wm
    show ks.length ≤ 256
    omega

set_option maxHeartbeats 4000000 in
theorem pbests_law {w : World} {v : Value} {l : List Int} (n wm most : Int) (hv : Rc (fun k => k < w.heap.size) w v l.length (intsV l)) :
    Calls Try.prog 9 [.int .i64 n, .int .i64 wm, .int .i64 most, v].toArray w (Ret fun r w' => r = .bool true ∧ Mod none' w w') := by
  refine F_sound c9 (by simp [fc9]) ?_
  obtain ⟨vS, vL, vC⟩ := hv.sl
  simp [fc9, s9]
  refine callm pknown_c (by simp) ?_
  intro w1 M1
  have H := Hp.ofMod M1
  simp
  refine ite_r (t := false) (by simp) (fun h => by cases h) (fun _ => ?_)
  simp [vS, vL]
  by_cases hbig : 130 < l.length
  · refine ite_r (t := true) (by simp; omega) (fun _ => ?_) (fun h => by cases h)
    simp
    exact M1
  refine ite_r (t := false) (by simp; omega) (fun h => by cases h) (fun _ => ?_)
  simp
  obtain ⟨i2, hi2, hz2⟩ : ∃ i, Try.prog.info? 24 = some i ∧ i.zero = some (planV 0 (.slice none 0 0)) := ⟨_, rfl, rfl⟩
  have hpn : (planV 0 (.slice none 0 0)).cells = #[.int .i64 0, .slice none 0 0] := plan_cells 0 _ rfl
  refine call_h (pbest_c n wm most (hv.at H.mod) (by omega)) (by simp) ?_
  have hln := bestP_len (n := n) (wm := wm) (most := most) (l := l) (by omega)
  rintro r w2 ⟨kv, rfl, HR⟩
  replace H := H.join HR
  simp
  have hkc : kv.cells = #[kv] := by obtain ⟨cap, hv⟩ := (H.rd 0 rfl).is; rw [hv]; rfl
  refine alloc_h H hi2 hz2 ?_
  intro t w3 H M3
  rw [hpn] at H
  refine ⟨.inl rfl, ?_⟩
  simp
  refine stAll_h 1 H rfl (v := planV (bestP n wm most l).1.1 kv) (by simp) (by simp) (by rw [plan_cells _ _ hkc]; rfl) rfl (by rw [plan_cells _ _ hkc]; simp; exact own_one (H.own 0 rfl)) ?_
  intro w4 H
  rw [plan_cells _ _ hkc] at H
  refine ⟨.inl rfl, ?_⟩
  simp
  refine call_h (pbest2_c n wm most (hv.at H.mod) (by omega)) (by simp) ?_
  rintro r w5 ⟨kv2, rfl, HR⟩
  replace H := H.join HR
  simp
  have hkc2 : kv2.cells = #[kv2] := by obtain ⟨cap, hv⟩ := (H.rd 2 rfl).is; rw [hv]; rfl
  refine alloc_h H hi2 hz2 ?_
  intro t2 w6 H M6
  rw [hpn] at H
  refine ⟨.inl rfl, ?_⟩
  simp
  refine stAll_h 3 H rfl (v := planV (bestP n wm most l).1.1 kv2) (by simp) (by simp) (by rw [plan_cells _ _ hkc2]; rfl) rfl (by rw [plan_cells _ _ hkc2]; simp; exact own_one (H.own 2 rfl)) ?_
  intro w7 H
  rw [plan_cells _ _ hkc2] at H
  refine ⟨.inl rfl, ?_⟩
  generalize bestP n wm most l = bp at *
  obtain ⟨⟨o, ks⟩, er⟩ := bp
  simp only at *
  obtain ⟨hc, hj, _, _⟩ := blk2 (H.blk 1 rfl)
  obtain ⟨hc2, hj2, _, _⟩ := blk2 (H.blk 3 rfl)
  simp [hc, hc2]
  refine ⟨hj, hj2, ?_⟩
  refine ifg_r (t := true) (by simp) (fun _ => ?_) (fun h => (h rfl).elim)
  refine callm (sameParts_c (ks := ks) (ms := ks) o o (H.rd 0 rfl) (H.rd 2 rfl) (by unfold maxLen; omega)) (by simp (disch := omega) [wI, wU, tmod_nn, tdiv_nn, env0_0, env0_1, env0_2, env0_3, env0_4, env0_5, -env0_apply, planV, hc, hc2]) ?_
  intro w' M'
  replace H := H.same M'
  simp
  exact H.mod

end Go.Proofs.Ytajkofndbeohpaa.VG
