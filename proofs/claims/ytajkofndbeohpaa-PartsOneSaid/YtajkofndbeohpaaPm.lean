/-
  Parts: laws of sizes, plans, costs, bits.
-/
import Derived.Test.YtajkofndbeohpaaPl
namespace Go.Proofs.Ytajkofndbeohpaa.VG
open Go
set_option linter.unusedSimpArgs false
set_option linter.unusedVariables false

/-- A row of ints as it comes in, with its room. -/
theorem irowc_of {H : Type} {enc : TypeId × Value → H} {w : World} {a : Option Addr} {len cap : Nat} (h : Sees enc Try.prog w 22 [.slice a len cap]) :
    ∃ l : List Int, l.length = len ∧ len ≤ maxLen ∧ Rc (fun b => b < w.heap.size) w (.slice a len cap) len (intsV l) ∧ ∀ x ∈ l, (Lit.int .i64 x).wf = true := by
  obtain ⟨l, h1, h2, h3, h4, h5⟩ := row_of (e := 3) (k := .i64) (by kernel_rfl) (by kernel_rfl) (by kernel_rfl) h
  exact ⟨l, h1, h2, ⟨h4, h3, by simp [intsV, h1]⟩, h5⟩
/-- A plan as it comes in. -/
theorem plan_of {H : Type} {enc : TypeId × Value → H} {w : World} {a : Array Value} (h : Sees enc Try.prog w 24 a.toList) :
    ∃ (o : Int) (kv : Value) (ks : List Int), Value.agg a = planV o kv ∧ (Lit.int .i64 o).wf = true ∧ ks.length ≤ maxLen ∧ Rc (fun b => b < w.heap.size) w kv ks.length (intsV ks) := by
  obtain ⟨hl, hf⟩ := h.struct Try.underlying24
  have hc : Try.prog.cellsOf 24 = 2 := by kernel_rfl
  have c1 : Try.prog.cellsOf 3 = 1 := by kernel_rfl
  have c2 : Try.prog.cellsOf 22 = 1 := by kernel_rfl
  rw [hc] at hl
  match hx : a.toList, hl with
  | [x, y], _ =>
    rw [hx] at hf
    have f0 := hf 0 _ rfl
    have f1 := hf 1 _ rfl
    simp [c1, c2] at f0 f1
    obtain ⟨n0, e0, hw⟩ := f0.int (k := .i64) (by kernel_rfl)
    simp at e0
    obtain ⟨oa, l, c, heq, _⟩ := f1.slice (e := 3) (by kernel_rfl) (by rw [c1]; omega)
    simp only [List.cons.injEq, and_true] at heq
    subst heq
    obtain ⟨ks, rfl, hm, hr, _⟩ := irowc_of f1
    refine ⟨n0, _, ks, ?_, hw, hm, hr⟩
    have : a = #[.int .i64 n0, .slice oa ks.length c] := by rw [← Array.toArray_toList (xs := a), hx, e0]
    rw [this]; rfl

set_option maxHeartbeats 2000000 in
theorem ptells_c {w : World} {kv v : Value} {ks l : List Int} (o' n wm o : Int) (h : Rc (fun k => k < w.heap.size) w kv ks.length (intsV ks)) (hv : Rc (fun k => k < w.heap.size) w v l.length (intsV l)) :
    Calls Try.prog 3 [.int .i64 o', .int .i64 n, .int .i64 wm, planV o kv, v].toArray w (Ret fun r w' => r = .bool true ∧ Mod none' w w') := by
  refine F_sound c3 (by simp [fc3]) ?_
  have hkc : kv.cells = #[kv] := by obtain ⟨cap, hv⟩ := h.rd.is; rw [hv]; rfl
  simp [fc3, s3]
  refine box_h (planV o kv) (Hp.nil w) (by simp) ?_
  intro t w1 H M1
  rw [plan_cells _ _ hkc] at H
  refine ⟨.inl rfl, ?_⟩
  simp
  refine callm (pknown_c) (by simp (disch := omega) [wI, wU, tmod_nn, tdiv_nn, env0_0, env0_1, env0_2, env0_3, env0_4, env0_5, -env0_apply]) ?_
  intro w' M'
  replace H := H.same M'
  simp
  refine ite_r (t := false) (by simp) (fun h => by cases h) (fun _ => ?_)
  obtain ⟨hc, hj, _, _⟩ := blk2 (H.blk 0 rfl)
  simp [hc]
  refine ⟨hj, ?_⟩
  refine callm (small_c o (h.rd.at H.mod) (hv.rd.at H.mod)) (by simp (disch := omega) [wI, wU, tmod_nn, tdiv_nn, env0_0, env0_1, env0_2, env0_3, env0_4, env0_5, -env0_apply, planV]) ?_
  intro w' M'
  replace H := H.same M'
  simp
  by_cases hs : ks.length ≤ 300 ∧ l.length ≤ 400
  rotate_left
  · refine ite_r (t := true) (by simp; omega) (fun _ => ?_) (fun h => by cases h)
    simp
    exact H.mod
  refine ite_r (t := false) (by simp; omega) (fun h => by cases h) (fun _ => ?_)
  replace H := H.drew
  simp
  refine call_h (sizes_c o' n wm) (by simp) ?_
  intro sv w4 HR
  replace H := H.join HR
  refine call_h (sizes2_c o' n wm) (by simp) ?_
  intro sv2 w5 HR
  replace H := H.join HR
  have hle := szS_le o' n wm
  generalize szS o' n wm = s at *
  refine callm (sameInts_c (l := s) (m := s) (H.rd 1 rfl) (H.rd 2 rfl) (by unfold maxLen; omega)) (by simp (disch := omega) [wI, wU, tmod_nn, tdiv_nn, env0_0, env0_1, env0_2, env0_3, env0_4, env0_5, -env0_apply]) ?_
  intro w' M'
  replace H := H.same M'
  obtain ⟨hc, hj, hb0, hb1⟩ := blk2 (H.blk 0 rfl)
  simp [hc]
  refine ⟨hj, ?_⟩
  refine ifg_r (t := true) (by simp) (fun _ => ?_) (fun h => (h rfl).elim)
  refine call_r _ (may_c o n wm (h.rd.at H.mod) (by omega)) (by simp [planV]) ?_
  rintro r w7 ⟨rfl, M'⟩
  have H0 := H
  replace H := H.same M'
  refine ⟨by simp [promOk]; exact same_blk (H0.blk 0 rfl) (H.blk 0 rfl), ?_⟩
  simp
  refine ifg_r (t := true) (by simp) (fun _ => ?_) (fun h => (h rfl).elim)
  refine callm (may2_c o n wm (h.rd.at H.mod) (by omega)) (by simp (disch := omega) [wI, wU, tmod_nn, tdiv_nn, env0_0, env0_1, env0_2, env0_3, env0_4, env0_5, -env0_apply, planV]) ?_
  intro w' M'
  replace H := H.same M'
  obtain ⟨hc, hj, hb0, hb1⟩ := blk2 (H.blk 0 rfl)
  simp [hc]
  refine ⟨hj, ?_⟩
  refine ifg_r (t := true) (by simp) (fun _ => ?_) (fun h => (h rfl).elim)
  refine call_r _ (cost_p o n wm (h.rd.at H.mod) (by omega) (hv.at H.mod) (by omega)) (by simp [planV]) ?_
  rintro r w8 ⟨rfl, M'⟩
  have H0 := H
  replace H := H.same M'
  refine ⟨by simp [promOk]; exact same_blk (H0.blk 0 rfl) (H.blk 0 rfl), ?_⟩
  simp
  refine ifg_r (t := true) (by simp) (fun _ => ?_) (fun h => (h rfl).elim)
  refine callm (cost2_p o n wm (h.rd.at H.mod) (by omega) (hv.at H.mod) (by omega)) (by simp (disch := omega) [wI, wU, tmod_nn, tdiv_nn, env0_0, env0_1, env0_2, env0_3, env0_4, env0_5, -env0_apply, planV]) ?_
  intro w' M'
  replace H := H.same M'
  simp
  exact H.mod


end Go.Proofs.Ytajkofndbeohpaa.VG
