/-
  Parts: laws of sizes, plans, costs, bits (and what goes with it: parts Pm Pn Po).
-/
import Derived.Test.YtajkofndbeohpaaPl

/-! ## Parts: laws of sizes, plans, costs, bits. -/
namespace Go.Proofs.Ytajkofndbeohpaa.VG
open Go
set_option linter.unusedSimpArgs false
set_option linter.unusedVariables false

/-- A row of ints as it comes in, with its room. -/
theorem irowc_of {H : Type} {enc : TypeId × Value → H} {w : World} {a : Option Addr} {len cap : Nat} (h : Sees enc Try.prog w 22 [.slice a len cap]) :
    ∃ l : List Int, l.length = len ∧ len ≤ maxLen ∧ Rc (fun b => b < w.heap.size) w (.slice a len cap) len (intsV l) ∧ ∀ x ∈ l, (Lit.int .i64 x).wf = true := by
  obtain ⟨l, h1, h2, h3, h4, h5⟩ := row_of (e := 3) (k := .i64) (by kernel_rfl) (by kernel_rfl) (by kernel_rfl) h
  exact ⟨l, h1, h2, ⟨h4, h3, by simp [intsV, h1]⟩, h5⟩
/-- A plan as it comes in. -/
theorem plan_of {H : Type} {enc : TypeId × Value → H} {w : World} {a : Array Value} (h : Sees enc Try.prog w 24 a.toList) :
    ∃ (o : Int) (kv : Value) (ks : List Int), Value.agg a = planV o kv ∧ (Lit.int .i64 o).wf = true ∧ ks.length ≤ maxLen ∧ Rc (fun b => b < w.heap.size) w kv ks.length (intsV ks) := by
  obtain ⟨hl, hf⟩ := h.struct Try.underlying24
  have hc : Try.prog.cellsOf 24 = 2 := by kernel_rfl
  have c1 : Try.prog.cellsOf 3 = 1 := by kernel_rfl
  have c2 : Try.prog.cellsOf 22 = 1 := by kernel_rfl
  rw [hc] at hl
  match hx : a.toList, hl with
  | [x, y], _ =>
    rw [hx] at hf
    have f0 := hf 0 _ rfl
    have f1 := hf 1 _ rfl
    simp [c1, c2] at f0 f1
    obtain ⟨n0, e0, hw⟩ := f0.int (k := .i64) (by kernel_rfl)
    simp at e0
    obtain ⟨oa, l, c, heq, _⟩ := f1.slice (e := 3) (by kernel_rfl) (by rw [c1]; omega)
    simp only [List.cons.injEq, and_true] at heq
    subst heq
    obtain ⟨ks, rfl, hm, hr, _⟩ := irowc_of f1
    refine ⟨n0, _, ks, ?_, hw, hm, hr⟩
    have : a = #[.int .i64 n0, .slice oa ks.length c] := by rw [← Array.toArray_toList (xs := a), hx, e0]
    rw [this]; rfl

set_option maxHeartbeats 2000000 in
theorem ptells_c {w : World} {kv v : Value} {ks l : List Int} (o' n wm o : Int) (h : Rc (fun k => k < w.heap.size) w kv ks.length (intsV ks)) (hv : Rc (fun k => k < w.heap.size) w v l.length (intsV l)) :
    Calls Try.prog 3 [.int .i64 o', .int .i64 n, .int .i64 wm, planV o kv, v].toArray w (Ret fun r w' => r = .bool true ∧ Mod none' w w') := by
  refine F_sound c3 (by simp [fc3]) ?_
  have hkc : kv.cells = #[kv] := by obtain ⟨cap, hv⟩ := h.rd.is; rw [hv]; rfl
  simp [fc3, s3]
  refine box_h (planV o kv) (Hp.nil w) (by simp) ?_
  intro t w1 H M1
  rw [plan_cells _ _ hkc] at H
  refine ⟨.inl rfl, ?_⟩
  simp
  refine callm (pknown_c) (by simp (disch := omega) [wI, wU, tmod_nn, tdiv_nn, env0_0, env0_1, env0_2, env0_3, env0_4, env0_5, -env0_apply]) ?_
  intro w' M'
  replace H := H.same M'
  simp
  refine ite_r (t := false) (by simp) (fun h => by cases h) (fun _ => ?_)
  obtain ⟨hc, hj, _, _⟩ := blk2 (H.blk 0 rfl)
  simp [hc]
  refine ⟨hj, ?_⟩
  refine callm (small_c o (h.rd.at H.mod) (hv.rd.at H.mod)) (by simp (disch := omega) [wI, wU, tmod_nn, tdiv_nn, env0_0, env0_1, env0_2, env0_3, env0_4, env0_5, -env0_apply, planV]) ?_
  intro w' M'
  replace H := H.same M'
  simp
  by_cases hs : ks.length ≤ 300 ∧ l.length ≤ 400
  rotate_left
  · refine ite_r (t := true) (by simp; omega) (fun _ => ?_) (fun h => by cases h)
    simp
    exact H.mod
  refine ite_r (t := false) (by simp; omega) (fun h => by cases h) (fun _ => ?_)
  replace H := H.drew
  simp
  refine call_h (sizes_c o' n wm) (by simp) ?_
  intro sv w4 HR
  replace H := H.join HR
  refine call_h (sizes2_c o' n wm) (by simp) ?_
  intro sv2 w5 HR
  replace H := H.join HR
  have hle := szS_le o' n wm
  generalize szS o' n wm = s at *
  refine callm (sameInts_c (l := s) (m := s) (H.rd 1 rfl) (H.rd 2 rfl) (by unfold maxLen; omega)) (by simp (disch := omega) [wI, wU, tmod_nn, tdiv_nn, env0_0, env0_1, env0_2, env0_3, env0_4, env0_5, -env0_apply]) ?_
  intro w' M'
  replace H := H.same M'
  obtain ⟨hc, hj, hb0, hb1⟩ := blk2 (H.blk 0 rfl)
  simp [hc]
  refine ⟨hj, ?_⟩
  refine ifg_r (t := true) (by simp) (fun _ => ?_) (fun h => (h rfl).elim)
  refine call_r _ (may_c o n wm (h.rd.at H.mod) (by omega)) (by simp [planV]) ?_
  rintro r w7 ⟨rfl, M'⟩
  have H0 := H
  replace H := H.same M'
  refine ⟨by simp [promOk]; exact same_blk (H0.blk 0 rfl) (H.blk 0 rfl), ?_⟩
  simp
  refine ifg_r (t := true) (by simp) (fun _ => ?_) (fun h => (h rfl).elim)
  refine callm (may2_c o n wm (h.rd.at H.mod) (by omega)) (by simp (disch := omega) [wI, wU, tmod_nn, tdiv_nn, env0_0, env0_1, env0_2, env0_3, env0_4, env0_5, -env0_apply, planV]) ?_
  intro w' M'
  replace H := H.same M'
  obtain ⟨hc, hj, hb0, hb1⟩ := blk2 (H.blk 0 rfl)
  simp [hc]
  refine ⟨hj, ?_⟩
  refine ifg_r (t := true) (by simp) (fun _ => ?_) (fun h => (h rfl).elim)
  refine call_r _ (cost_p o n wm (h.rd.at H.mod) (by omega) (hv.at H.mod) (by omega)) (by simp [planV]) ?_
  rintro r w8 ⟨rfl, M'⟩
  have H0 := H
  replace H := H.same M'
  refine ⟨by simp [promOk]; exact same_blk (H0.blk 0 rfl) (H.blk 0 rfl), ?_⟩
  simp
  refine ifg_r (t := true) (by simp) (fun _ => ?_) (fun h => (h rfl).elim)
  refine callm (cost2_p o n wm (h.rd.at H.mod) (by omega) (hv.at H.mod) (by omega)) (by simp (disch := omega) [wI, wU, tmod_nn, tdiv_nn, env0_0, env0_1, env0_2, env0_3, env0_4, env0_5, -env0_apply, planV]) ?_
  intro w' M'
  replace H := H.same M'
  simp
  exact H.mod


end Go.Proofs.Ytajkofndbeohpaa.VG

/-! ## Parts: laws of bits, of one part. -/
namespace Go.Proofs.Ytajkofndbeohpaa.VG
open Go
set_option linter.unusedSimpArgs false
set_option linter.unusedVariables false

theorem putB_le {o n wm : Int} {ks : List Int} (h : mayB o ks n wm = true) (l : List Int) : (putB o ks n wm l).length ≤ 4 + 256 * (10 + 65 * l.length) := by
  have hkl : ks.length = (szS o n wm).length := by simp [mayB] at h; exact h.1.2
  have hka : ks.all okK = true := by simp only [mayB, Bool.and_eq_true] at h; exact h.2
  have h1 := putTo_le hka o (szS o n wm) l (szS o n wm).length (by omega)
  have h2 : (szS o n wm).length * (10 + 65 * l.length) ≤ 256 * (10 + 65 * l.length) := Nat.mul_le_mul_right _ (szS_le o n wm)
  unfold putB
  omega

set_option maxHeartbeats 2000000 in
theorem pputs_c {w : World} {kv v : Value} {ks l : List Int} (o n wm : Int) (h : Rc (fun k => k < w.heap.size) w kv ks.length (intsV ks)) (hv : Rc (fun k => k < w.heap.size) w v l.length (intsV l)) :
    Calls Try.prog 4 [planV o kv, .int .i64 n, .int .i64 wm, v].toArray w (Ret fun r w' => r = .bool true ∧ Mod none' w w') := by
  refine F_sound c4 (by simp [fc4]) ?_
  have hkc : kv.cells = #[kv] := by obtain ⟨cap, hv⟩ := h.rd.is; rw [hv]; rfl
  simp [fc4, s4]
  refine box_h (planV o kv) (Hp.nil w) (by simp) ?_
  intro t w1 H M1
  rw [plan_cells _ _ hkc] at H
  refine ⟨.inl rfl, ?_⟩
  simp
  refine callm (pknown_c) (by simp (disch := omega) [wI, wU, tmod_nn, tdiv_nn, env0_0, env0_1, env0_2, env0_3, env0_4, env0_5, -env0_apply]) ?_
  intro w' M'
  replace H := H.same M'
  simp
  refine ite_r (t := false) (by simp) (fun h => by cases h) (fun _ => ?_)
  obtain ⟨hc, hj, _, _⟩ := blk2 (H.blk 0 rfl)
  simp [hc]
  refine ⟨hj, ?_⟩
  refine callm (small_c o (h.rd.at H.mod) (hv.rd.at H.mod)) (by simp (disch := omega) [wI, wU, tmod_nn, tdiv_nn, env0_0, env0_1, env0_2, env0_3, env0_4, env0_5, -env0_apply, planV]) ?_
  intro w' M'
  replace H := H.same M'
  simp
  by_cases hs : ks.length ≤ 300 ∧ l.length ≤ 400
  rotate_left
  · refine ite_r (t := true) (by simp; omega) (fun _ => ?_) (fun h => by cases h)
    simp
    exact H.mod
  refine ite_r (t := false) (by simp; omega) (fun h => by cases h) (fun _ => ?_)
  simp
  refine wrbox_h H (by simp) ?_
  intro b w2 H M2
  refine ⟨.inl rfl, ?_⟩
  simp
  refine xrbox_h H (by simp) ?_
  intro c w3 H M3
  refine ⟨.inl rfl, ?_⟩
  replace H := H.drew
  obtain ⟨hc, hj, hb0, hb1⟩ := blk2 (H.blk 0 rfl)
  have hc' : (cellsFrom w3 ⟨t, 0, none⟩ 0 2).toArray = #[.int .i64 o, kv] := hc
  have hj' : ∀ j, j < 2 → (w3.cell? ⟨t, j, none⟩).isSome = true := hj
  simp [hc, hc']
  refine ⟨hj', ?_⟩
  by_cases hok : mayB o ks n wm = true ∧ rightB n wm l = true
  · have hbl := putB_le hok.1 l
    obtain ⟨FW, hW, hFW, upW, _⟩ := H.wr 1 rfl
    refine call_r _ (pput_yes o n wm hW (h.rd.at H.mod) (by omega) (hv.at H.mod) (by omega) hFW (fun k hk => by have := H.mod.size; omega) (by simp) hok) (by simp [planV]) ?_
    rintro r w5 ⟨rfl, A⟩
    have H0 := H
    replace H := upW _ _ A
    refine ⟨by simp [promOk]; exact same_blk (H0.blk 0 rfl) (H.blk 0 rfl), ?_⟩
    obtain ⟨FX, hX, hFX, upX, _⟩ := H.xr 2 rfl
    refine call_h (xpput_yes o n wm hX (h.rd.at H.mod) (by omega) (hv.at H.mod) (by omega) hFX (fun k hk => by have := H.mod.size; omega) (by simp) hok) (by simp [planV]) ?_
    rintro r w6 ⟨rfl, A⟩
    replace H := upX _ _ A
    simp only [List.nil_append] at H
    generalize putB o ks n wm l = pb at *
    simp
    refine ifg_r (t := true) (by simp) (fun _ => ?_) (fun h => (h rfl).elim)
    obtain ⟨FW, hW, _⟩ := H.wr 1 rfl
    refine callp (len_c hW) (by simp) ?_
    simp
    refine ifg_r (t := true) (by simp) (fun _ => ?_) (fun h => (h rfl).elim)
    obtain ⟨FX, hX, _⟩ := H.xr 2 rfl
    refine callp (xlen_c hX) (by simp) ?_
    simp
    refine ifg_r (t := true) (by simp) (fun _ => ?_) (fun h => (h rfl).elim)
    obtain ⟨FW, hW, _⟩ := H.wr 1 rfl
    refine call_h (bytes_c hW (by omega)) (by simp) ?_
    intro vb w7 A
    replace H := H.newBytes A
    simp
    refine ifg_r (t := true) (by simp) (fun _ => ?_) (fun h => (h rfl).elim)
    obtain ⟨FX, hX, _⟩ := H.xr 2 rfl
    refine call_h (xbytes_c hX (by omega)) (by simp) ?_
    intro vc w8 A
    replace H := H.newBytes A
    simp
    refine ifg_r (t := true) (by simp) (fun _ => ?_) (fun h => (h rfl).elim)
    refine callp (same_c (H.rd 3 rfl) (H.rd 4 rfl) (packB_fits _) (packB_fits _)) (by simp) ?_
    simp
    exact H.mod
  · refine call_r _ (pput_no (b := b) o n wm (h.rd.at H.mod) (by omega) (hv.at H.mod) (by omega) hok) (by simp [planV]) ?_
    rintro r w5 ⟨rfl, M'⟩
    have H0 := H
    replace H := H.same M'
    refine ⟨by simp [promOk]; exact same_blk (H0.blk 0 rfl) (H.blk 0 rfl), ?_⟩
    refine callm (xpput_no (b := c) o n wm (h.rd.at H.mod) (by omega) (hv.at H.mod) (by omega) hok) (by simp (disch := omega) [wI, wU, tmod_nn, tdiv_nn, env0_0, env0_1, env0_2, env0_3, env0_4, env0_5, -env0_apply, planV]) ?_
    intro w' M'
    replace H := H.same M'
    simp
    refine ifg_r (t := true) (by simp) (fun _ => ?_) (fun h => (h rfl).elim)
    obtain ⟨FW, hW, _⟩ := H.wr 1 rfl
    refine callp (len_c hW) (by simp) ?_
    simp
    refine ifg_r (t := true) (by simp) (fun _ => ?_) (fun h => (h rfl).elim)
    obtain ⟨FX, hX, _⟩ := H.xr 2 rfl
    refine callp (xlen_c hX) (by simp) ?_
    simp
    refine ifg_r (t := true) (by simp) (fun _ => ?_) (fun h => (h rfl).elim)
    obtain ⟨FW, hW, _⟩ := H.wr 1 rfl
    refine call_h (bytes_c hW (by simp)) (by simp) ?_
    intro vb w7 A
    replace H := H.newBytes A
    simp
    refine ifg_r (t := true) (by simp) (fun _ => ?_) (fun h => (h rfl).elim)
    obtain ⟨FX, hX, _⟩ := H.xr 2 rfl
    refine call_h (xbytes_c hX (by simp)) (by simp) ?_
    intro vc w8 A
    replace H := H.newBytes A
    simp
    refine ifg_r (t := true) (by simp) (fun _ => ?_) (fun h => (h rfl).elim)
    refine callp (same_c (H.rd 3 rfl) (H.rd 4 rfl) (packB_fits _) (packB_fits _)) (by simp) ?_
    simp
    exact H.mod

end Go.Proofs.Ytajkofndbeohpaa.VG

/-! ## Parts: laws of one part, of sizes. -/
namespace Go.Proofs.Ytajkofndbeohpaa.VG
open Go
set_option linter.unusedSimpArgs false
set_option linter.unusedVariables false

theorem cost_one_plan {k : Int} {l : List Int} (hk : paramB k = true) (hl : 0 < l.length) (hl2 : l.length ≤ 4096) (ha : allW l = true) : costP 0 [k] l.length 0 l = 9 + sumI k l := by
  have hr : rowB (l.length : Int) 0 = true := rowB_iff.2 (by omega)
  have hp : pw 0 = 1 := rfl
  have hB : szB 0 (l.length : Int) 0 = true := szB_iff.2 ⟨hr, by omega, by rw [hp]; omega, by rw [hp]; omega⟩
  have hs : szS 0 (l.length : Int) 0 = [(l.length : Int)] := by
    rw [szS, if_pos hB, hp]
    simp
  have hm : mayB 0 [k] (l.length : Int) 0 = true := by simp [mayB, hB, hs, okK, hk]
  have hri : rightB (l.length : Int) 0 l = true := by simp [rightB, hr, ha]
  have hk31 : ¬ k = 31 := by have := paramB_iff.1 hk; omega
  rw [costP, if_pos ⟨hm, hri⟩, hs]
  have hpart : partI [(l.length : Int)] l 0 = l := by simp [partI, atI, gi]
  show costTo [k] [(l.length : Int)] l 1 = _
  simp only [costTo, hpart]
  have : gi [k] 0 = k := rfl
  rw [this, pcostI, if_neg hk31]
  omega

set_option maxHeartbeats 2000000 in
theorem pone_law {w : World} {v : Value} {l : List Int} (k : Int) (hv : Rc (fun k => k < w.heap.size) w v l.length (intsV l)) :
    Calls Try.prog 6 [.int .i64 k, v].toArray w (Ret fun r w' => r = .bool true ∧ Mod none' w w') := by
  refine F_sound c6 (by simp [fc6]) ?_
  obtain ⟨hS, hL⟩ := hv.rd.sl
  simp [fc6, s6]
  refine callm pknown_c (by simp) ?_
  intro w1 M1
  have H := Hp.ofMod M1
  simp
  refine ite_r (t := false) (by simp) (fun h => by cases h) (fun _ => ?_)
  simp [hS, hL]
  have hnz : l = [] ↔ l.length = 0 := List.length_eq_zero_iff.symm
  by_cases hbig : ((200 < l.length ∨ l.length = 0) ∨ k < 0) ∨ 25 < k
  · refine ifg_r (t := true) (by simp [-List.length_eq_zero_iff, hnz]; omega) (fun h => by cases h) (fun _ => ?_)
    simp [-List.length_eq_zero_iff, hnz]
    refine ⟨fun _ _ _ _ => by omega, ?_⟩
    refine ite_r (t := true) (by simp [-List.length_eq_zero_iff, hnz]; omega) (fun _ => ?_) (fun h => by cases h)
    simp
    exact M1
  refine ifg_r (t := false) (by simp [-List.length_eq_zero_iff, hnz]; omega) (fun _ => ?_) (fun h => (h rfl).elim)
  refine callp (allWide2_c (hv.rd.at H.mod) (by unfold maxLen; omega)) (by simp) ?_
  simp
  by_cases ha : allW l = true
  rotate_left
  · refine ite_r (t := true) (by simp [ha]) (fun _ => ?_) (fun h => by cases h)
    simp
    exact M1
  refine ite_r (t := false) (by simp [-List.length_eq_zero_iff, ha, hnz]; omega) (fun h => by cases h) (fun _ => ?_)
  simp
  refine bs_h slTI [.int .i64 k] H rfl (by decide) (by simp) (by simp [Value.cells]) ?_
  intro kv w2 H M2
  refine ⟨.inl rfl, ?_⟩
  have hkr : Rd (fun k => w.heap.size ≤ k) w2 kv 1 (intsV [k]) := by simpa [intsV, Value.cells] using H.rd 0 rfl
  have hkc : kv.cells = #[kv] := by obtain ⟨cap, hv⟩ := hkr.is; rw [hv]; rfl
  have hp : paramB k = true := paramB_iff.2 (by omega)
  simp [hkc, hS, hL]
  have hv2 := hv.at H.mod
  have hv3 : Rc (fun _ => True) w2 v l.length (intsV l) := ⟨hv2.rd.mono fun _ _ => trivial, hv2.cap, hv2.len⟩
  have hk3 : Rd (fun _ => True) w2 kv 1 (intsV [k]) := hkr.mono fun _ _ => trivial
  refine callm (cost_p (ks := [k]) 0 l.length 0 hk3 (by simp) hv3 (by omega)) (by simp (disch := omega) [wI, wU, tmod_nn, tdiv_nn, env0_0, env0_1, env0_2, env0_3, env0_4, env0_5, -env0_apply, planV, hkc, hS, hL, putAt]) ?_
  intro w' M'
  replace H := H.same M'
  rw [cost_one_plan hp (by omega) (by omega) ha]
  refine callp (sum_c k (hv.rd.at H.mod) (by omega)) (by simp) ?_
  have hb := sumI_bd k l
  have hw : IntKind.i64.wrap (9 + sumI k l) = 9 + sumI k l := wI (by omega) (by omega)
  simp [hw]
  exact H.mod

end Go.Proofs.Ytajkofndbeohpaa.VG
