/-
  Model: the law of what leans.
-/
import Derived.Test.YtcljnpodfhgjkaaMg
namespace Go.Proofs.Ytcljnpodfhgjkaa.VG
open Go
set_option linter.unusedSimpArgs false
set_option linter.unusedVariables false
set_option maxRecDepth 20000

/-- How a context leans after i errs that are all v. -/
def Lean (v : Int) (i : Nat) (n b x : Int) : Prop :=
  (1 ≤ v → 0 ≤ x ∧ (1 ≤ i → 1 ≤ x)) ∧ (v ≤ -2 → x ≤ 0 ∧ (1 ≤ i → x ≤ -1)) ∧ (v = 0 → b = 0 ∧ x = 0) ∧ (v = -1 → b = 1 - n ∧ x = 0) ∧ (i = 0 → n = 1 ∧ b = 0 ∧ x = 0)
theorem Lean.next {v n a b x : Int} {i : Nat} (h : Lean v i n b x) (hw : WfS n a b x) (hv : -100 ≤ v ∧ v ≤ 100) : Lean v (i + 1) (lnN n) (lnB n b v) (lnC n b x v) := by
  unfold Lean WfS at *
  obtain ⟨h1, h2, h3, h4, h5⟩ := h
  obtain ⟨w1, w2, w3, w4⟩ := hw
  have hB1 : lnB1 n b v = if n = 64 then (b + v) / 2 else b + v := rfl
  have hN : lnN n = if n = 64 then 33 else n + 1 := rfl
  unfold lnB lnC mxI mnI
  generalize lnB1 n b v = b1 at *
  generalize lnN n = n1 at *
  refine ⟨fun hv1 => ?_, fun hv1 => ?_, fun hv1 => ?_, fun hv1 => ?_, fun h => by omega⟩
  · have h1 := h1 hv1
    split at hN <;> (rename_i hn; first | rw [if_pos hn] at hB1 | rw [if_neg hn] at hB1) <;> (repeat' split) <;> omega
  · have h2 := h2 hv1
    split at hN <;> (rename_i hn; first | rw [if_pos hn] at hB1 | rw [if_neg hn] at hB1) <;> (repeat' split) <;> omega
  · have h3 := h3 hv1
    split at hN <;> (rename_i hn; first | rw [if_pos hn] at hB1 | rw [if_neg hn] at hB1) <;> (repeat' split) <;> omega
  · have h4 := h4 hv1
    split at hN <;> (rename_i hn; first | rw [if_pos hn] at hB1 | rw [if_neg hn] at hB1) <;> (repeat' split) <;> omega

set_option maxHeartbeats 4000000 in
theorem mleans_law {w : World} (er gs cx : Int) :
    Calls Try.prog 6 [.int .i64 er, .int .i64 gs, .int .i64 cx].toArray w (Ret fun r w' => r = .bool true ∧ Mod none' w w') := by
  refine F_sound c6 (by simp [fc6]) ?_
  have hd8 : dep 8 = true := by decide
  simp [fc6, s6]
  refine callp (within_c cx 0 364 (by omega) (by omega) (by omega)) (by simp) ?_
  refine callp (within_c er (-100) 100 (by omega) (by omega) (by omega)) (by simp) ?_
  have hc := with_bd (n := cx) (lo := 0) (hi := 364) (by omega)
  have hv := with_bd (n := er) (lo := -100) (hi := 100) (by omega)
  generalize withI cx 0 364 = c at *
  generalize withI er (-100) 100 = v at *
  have hcc : isC c = true := isC_iff.2 (by omega)
  have hvv : isE 8 v = true := isE_iff.2 (by rw [show p2 (8 - 1) = 128 from by decide]; omega)
  obtain ⟨C, rfl⟩ : ∃ C : Nat, c = C := ⟨c.toNat, by omega⟩
  have eO : ctxO C = 1 + C * 4 := by unfold ctxO; rw [Int.toNat_natCast]
  simp
  refine call_h (mnew_c 8) (by simp) ?_
  rintro r w2 hr
  obtain ⟨t, rfl, H⟩ := hr.ok hd8
  simp
  refine ite_r (t := false) (by simp) (fun h => by cases h) (fun _ => ?_)
  simp
  refine for_r 600 (fun i env' w' => env' 7 = .int .i64 C ∧ env' 8 = .int .i64 v ∧ env' 9 = .pointer (some ⟨t, 0, none⟩) ∧ env' 11 = .int .i64 i ∧ ∃ f, Wf f ∧ f 0 = 8 ∧ Lean v i (f (ctxO C)) (f (ctxO C + 2)) (f (ctxO C + 3)) ∧ Hp w w' [.blk t (cellsF f 1461)]) ?_ ?_ ?_
  · have n0 : newF 8 (ctxO C) = 1 := by rw [eO]; simp only [newF, newP]; rw [if_neg (by omega), if_pos (by omega), if_pos (by omega)]
    have n2 : newF 8 (ctxO C + 2) = 0 := by rw [eO]; simp only [newF, newP]; rw [if_neg (by omega), if_pos (by omega), if_neg (by omega), if_neg (by omega)]
    have n3 : newF 8 (ctxO C + 3) = 0 := by rw [eO]; simp only [newF, newP]; rw [if_neg (by omega), if_pos (by omega), if_neg (by omega), if_neg (by omega)]
    simp
    refine ⟨newF 8, newF_wf hd8, rfl, ?_, H⟩
    rw [n0, n2, n3]
    unfold Lean
    omega
  · rintro i env w3 hi ⟨e7, e8, e9, e11, f, hf, hf0, hl, H⟩
    have wi : IntKind.i64.wrap ((i : Int) + 1) = ((i + 1 : Nat) : Int) := by rw [wI (by omega) (by omega)]; omega
    have hw := hf.2 C (by omega)
    rw [← eO] at hw
    have hww := hw
    unfold WfS at hww
    simp [e11]
    refine ite_r (t := true) (by simp; omega) (fun _ => ?_) (fun h => by cases h)
    simp [wp_blk]
    refine callm (stat_c (H.md 0 rfl).1 C) (by simp (disch := omega) [wI, wU, tmod_nn, tdiv_nn, env0_0, env0_1, env0_2, env0_3, env0_4, env0_5, -env0_apply, e7, e9]) ?_
    intro w' M'
    replace H := H.same M'
    rw [statV, if_pos hcc]
    obtain ⟨hM, _, _, up⟩ := H.md 0 rfl
    have HL := learn_c hM hf C v
    have hf' := lrn_wf hf C v
    have hf0' : lrn f C v 0 = 8 ∧ lrn f C v (ctxO C) = lnN (f (ctxO C)) ∧ lrn f C v (ctxO C + 2) = lnB (f (ctxO C)) (f (ctxO C + 2)) v ∧ lrn f C v (ctxO C + 3) = lnC (f (ctxO C)) (f (ctxO C + 2)) (f (ctxO C + 3)) v := by
      obtain ⟨u0, u1, u2, u3, u4⟩ := up4_at f (ctxO C) (lnN (f (ctxO C))) (lnA (f (ctxO C)) (f (ctxO C + 1)) v) (lnB (f (ctxO C)) (f (ctxO C + 2)) v) (lnC (f (ctxO C)) (f (ctxO C + 2)) (f (ctxO C + 3)) v)
      rw [lrn, if_pos ⟨hcc, by rw [hf0]; exact hvv⟩]
      exact ⟨by rw [u4 0 (.inl (by rw [eO]; omega)), hf0], u0, u2, u3⟩
    have hl' := hl.next hw hv
    generalize f (ctxO C) = n at *
    generalize f (ctxO C + 1) = a at *
    generalize f (ctxO C + 2) = b at *
    generalize f (ctxO C + 3) = x at *
    have h1 : ¬ n < 1 := by omega
    have h2 : ¬ 64 < n := by omega
    have h3 : ¬ a < 0 := by omega
    have h4 : ¬ 0 < b := by omega
    have w1 : IntKind.i64.wrap (-n) = -n := wI (by omega) (by omega)
    have h5 : ¬ b ≤ -n := by omega
    have h6 : ¬ x < -128 := by omega
    have h7 : ¬ 127 < x := by omega
    simp [h1, h2, h3, h4, h5, h6, h7, w1]
    refine ite_r (t := false) (by simp) (fun h => by cases h) (fun _ => ?_)
    simp
    refine call_h HL (by simp [e7, e8, e9]) ?_
    rintro r w4 HA
    replace H := up _ _ HA
    simp [e7, e8, e9, e11, wi, -Int.natCast_add]
    refine ⟨by omega, _, hf', hf0'.1, ?_, H⟩
    rw [hf0'.2.1, hf0'.2.2.1, hf0'.2.2.2]
    exact hl'
  · rintro env w3 ⟨e7, e8, e9, e11, f, hf, hf0, hl, H⟩
    simp [e11]
    refine ite_r (t := false) (by simp) (fun h => by cases h) (fun _ => ?_)
    refine callm (stat_c (H.md 0 rfl).1 C) (by simp (disch := omega) [wI, wU, tmod_nn, tdiv_nn, env0_0, env0_1, env0_2, env0_3, env0_4, env0_5, -env0_apply, e7, e9]) ?_
    intro w' M'
    replace H := H.same M'
    rw [statV, if_pos hcc]
    unfold Lean at hl
    generalize f (ctxO C) = n at *
    generalize f (ctxO C + 1) = a at *
    generalize f (ctxO C + 2) = b at *
    generalize f (ctxO C + 3) = x at *
    have q1 : (0 < v) ↔ (0 < x) := by omega
    have q2 : (v < -1) ↔ (x < 0) := by omega
    simp [e8, q1, q2]
    refine ifg_r (t := true) (by simp) (fun _ => ?_) (fun h => (h rfl).elim)
    refine callm (known_c) (by simp (disch := omega) [wI, wU, tmod_nn, tdiv_nn, env0_0, env0_1, env0_2, env0_3, env0_4, env0_5, -env0_apply]) ?_
    intro w' M'
    replace H := H.same M'
    simp
    exact H.mod

end Go.Proofs.Ytcljnpodfhgjkaa.VG
