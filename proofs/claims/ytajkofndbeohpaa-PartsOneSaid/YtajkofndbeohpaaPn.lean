/-
  Parts: laws of bits, of one part.
-/
import Derived.Test.YtajkofndbeohpaaPm
namespace Go.Proofs.Ytajkofndbeohpaa.VG
open Go
set_option linter.unusedSimpArgs false
set_option linter.unusedVariables false

theorem putB_le {o n wm : Int} {ks : List Int} (h : mayB o ks n wm = true) (l : List Int) : (putB o ks n wm l).length ≤ 4 + 256 * (10 + 65 * l.length) := by
  have hkl : ks.length = (szS o n wm).length := by simp [mayB] at h; exact h.1.2
  have hka : ks.all okK = true := by simp only [mayB, Bool.and_eq_true] at h; exact h.2
  have h1 := putTo_le hka o (szS o n wm) l (szS o n wm).length (by omega)
  have h2 : (szS o n wm).length * (10 + 65 * l.length) ≤ 256 * (10 + 65 * l.length) := Nat.mul_le_mul_right _ (szS_le o n wm)
  unfold putB
  omega

set_option maxHeartbeats 2000000 in
theorem pputs_c {w : World} {kv v : Value} {ks l : List Int} (o n wm : Int) (h : Rc (fun k => k < w.heap.size) w kv ks.length (intsV ks)) (hv : Rc (fun k => k < w.heap.size) w v l.length (intsV l)) :
    Calls Try.prog 4 [planV o kv, .int .i64 n, .int .i64 wm, v].toArray w (Ret fun r w' => r = .bool true ∧ Mod none' w w') := by
  refine F_sound c4 (by simp [fc4]) ?_
  have hkc : kv.cells = #[kv] := by obtain ⟨cap, hv⟩ := h.rd.is; rw [hv]; rfl
  simp [fc4, s4]
  refine box_h (planV o kv) (Hp.nil w) (by simp) ?_
  intro t w1 H M1
  rw [plan_cells _ _ hkc] at H
  refine ⟨.inl rfl, ?_⟩
  simp
  refine callm (pknown_c) (by simp (disch := omega) [wI, wU, tmod_nn, tdiv_nn, env0_0, env0_1, env0_2, env0_3, env0_4, env0_5, -env0_apply]) ?_
  intro w' M'
  replace H := H.same M'
  simp
  refine ite_r (t := false) (by simp) (fun h => by cases h) (fun _ => ?_)
  obtain ⟨hc, hj, _, _⟩ := blk2 (H.blk 0 rfl)
  simp [hc]
  refine ⟨hj, ?_⟩
  refine callm (small_c o (h.rd.at H.mod) (hv.rd.at H.mod)) (by simp (disch := omega) [wI, wU, tmod_nn, tdiv_nn, env0_0, env0_1, env0_2, env0_3, env0_4, env0_5, -env0_apply, planV]) ?_
  intro w' M'
  replace H := H.same M'
  simp
  by_cases hs : ks.length ≤ 300 ∧ l.length ≤ 400
  rotate_left
  · refine ite_r (t := true) (by simp; omega) (fun _ => ?_) (fun h => by cases h)
    simp
    exact H.mod
  refine ite_r (t := false) (by simp; omega) (fun h => by cases h) (fun _ => ?_)
  simp
  refine wrbox_h H (by simp) ?_
  intro b w2 H M2
  refine ⟨.inl rfl, ?_⟩
  simp
  refine xrbox_h H (by simp) ?_
  intro c w3 H M3
  refine ⟨.inl rfl, ?_⟩
  replace H := H.drew
  obtain ⟨hc, hj, hb0, hb1⟩ := blk2 (H.blk 0 rfl)
  have hc' : (cellsFrom w3 ⟨t, 0, none⟩ 0 2).toArray = #[.int .i64 o, kv] := hc
  have hj' : ∀ j, j < 2 → (w3.cell? ⟨t, j, none⟩).isSome = true := hj
  simp [hc, hc']
  refine ⟨hj', ?_⟩
  by_cases hok : mayB o ks n wm = true ∧ rightB n wm l = true
  · have hbl := putB_le hok.1 l
    obtain ⟨FW, hW, hFW, upW, _⟩ := H.wr 1 rfl
    refine call_r _ (pput_yes o n wm hW (h.rd.at H.mod) (by omega) (hv.at H.mod) (by omega) hFW (fun k hk => by have := H.mod.size; omega) (by simp) hok) (by simp [planV]) ?_
    rintro r w5 ⟨rfl, A⟩
    have H0 := H
    replace H := upW _ _ A
    refine ⟨by simp [promOk]; exact same_blk (H0.blk 0 rfl) (H.blk 0 rfl), ?_⟩
    obtain ⟨FX, hX, hFX, upX, _⟩ := H.xr 2 rfl
    refine call_h (xpput_yes o n wm hX (h.rd.at H.mod) (by omega) (hv.at H.mod) (by omega) hFX (fun k hk => by have := H.mod.size; omega) (by simp) hok) (by simp [planV]) ?_
    rintro r w6 ⟨rfl, A⟩
    replace H := upX _ _ A
    simp only [List.nil_append] at H
    generalize putB o ks n wm l = pb at *
    simp
    refine ifg_r (t := true) (by simp) (fun _ => ?_) (fun h => (h rfl).elim)
    obtain ⟨FW, hW, _⟩ := H.wr 1 rfl
    refine callp (len_c hW) (by simp) ?_
    simp
    refine ifg_r (t := true) (by simp) (fun _ => ?_) (fun h => (h rfl).elim)
    obtain ⟨FX, hX, _⟩ := H.xr 2 rfl
    refine callp (xlen_c hX) (by simp) ?_
    simp
    refine ifg_r (t := true) (by simp) (fun _ => ?_) (fun h => (h rfl).elim)
    obtain ⟨FW, hW, _⟩ := H.wr 1 rfl
    refine call_h (bytes_c hW (by omega)) (by simp) ?_
    intro vb w7 A
    replace H := H.newBytes A
    simp
    refine ifg_r (t := true) (by simp) (fun _ => ?_) (fun h => (h rfl).elim)
    obtain ⟨FX, hX, _⟩ := H.xr 2 rfl
    refine call_h (xbytes_c hX (by omega)) (by simp) ?_
    intro vc w8 A
    replace H := H.newBytes A
    simp
    refine ifg_r (t := true) (by simp) (fun _ => ?_) (fun h => (h rfl).elim)
    refine callp (same_c (H.rd 3 rfl) (H.rd 4 rfl) (packB_fits _) (packB_fits _)) (by simp) ?_
    simp
    exact H.mod
  · refine call_r _ (pput_no (b := b) o n wm (h.rd.at H.mod) (by omega) (hv.at H.mod) (by omega) hok) (by simp [planV]) ?_
    rintro r w5 ⟨rfl, M'⟩
    have H0 := H
    replace H := H.same M'
    refine ⟨by simp [promOk]; exact same_blk (H0.blk 0 rfl) (H.blk 0 rfl), ?_⟩
    refine callm (xpput_no (b := c) o n wm (h.rd.at H.mod) (by omega) (hv.at H.mod) (by omega) hok) (by simp (disch := omega) [wI, wU, tmod_nn, tdiv_nn, env0_0, env0_1, env0_2, env0_3, env0_4, env0_5, -env0_apply, planV]) ?_
    intro w' M'
    replace H := H.same M'
    simp
    refine ifg_r (t := true) (by simp) (fun _ => ?_) (fun h => (h rfl).elim)
    obtain ⟨FW, hW, _⟩ := H.wr 1 rfl
    refine callp (len_c hW) (by simp) ?_
    simp
    refine ifg_r (t := true) (by simp) (fun _ => ?_) (fun h => (h rfl).elim)
    obtain ⟨FX, hX, _⟩ := H.xr 2 rfl
    refine callp (xlen_c hX) (by simp) ?_
    simp
    refine ifg_r (t := true) (by simp) (fun _ => ?_) (fun h => (h rfl).elim)
    obtain ⟨FW, hW, _⟩ := H.wr 1 rfl
    refine call_h (bytes_c hW (by simp)) (by simp) ?_
    intro vb w7 A
    replace H := H.newBytes A
    simp
    refine ifg_r (t := true) (by simp) (fun _ => ?_) (fun h => (h rfl).elim)
    obtain ⟨FX, hX, _⟩ := H.xr 2 rfl
    refine call_h (xbytes_c hX (by simp)) (by simp) ?_
    intro vc w8 A
    replace H := H.newBytes A
    simp
    refine ifg_r (t := true) (by simp) (fun _ => ?_) (fun h => (h rfl).elim)
    refine callp (same_c (H.rd 3 rfl) (H.rd 4 rfl) (packB_fits _) (packB_fits _)) (by simp) ?_
    simp
    exact H.mod

end Go.Proofs.Ytajkofndbeohpaa.VG
