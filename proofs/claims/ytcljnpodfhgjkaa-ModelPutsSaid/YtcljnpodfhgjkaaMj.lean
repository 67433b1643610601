/-
  Model: the law of plays.
-/
import Derived.Test.YtcljnpodfhgjkaaMi
import Derived.Test.YtcljnpodfhgjkaaKt
namespace Go.Proofs.Ytcljnpodfhgjkaa.VG
open Go
set_option linter.unusedSimpArgs false
set_option linter.unusedVariables false
set_option maxRecDepth 20000

theorem Rd.cells1 {F : Nat → Prop} {w : World} {v : Value} {n : Nat} {xs : List Value} (h : Rd F w v n xs) : v.cells = #[v] := by obtain ⟨cap, hv⟩ := h.is; rw [hv]; rfl
theorem alike_c {w : World} {t1 t2 : Nat} {f : Nat → Int} (h1 : Md w t1 f) (h2 : Md w t2 f) (hf : Wf f) (c g : Int) :
    Calls Try.prog 21 [.pointer (some ⟨t1, 0, none⟩), .pointer (some ⟨t2, 0, none⟩), .int .i64 c, .int .i64 g].toArray w (Ret fun r w' => r = .bool true ∧ Mod none' w w') := by
  refine F_sound c21 (by simp [fc21]) ?_
  simp [fc21, s21]
  refine callm (stat_c h1 c) (by simp) ?_
  intro w1 M1
  have H := Hp.ofMod M1
  have hs : ∃ n a b x : Int, statV f c = .tuple #[.int .i64 n, .int .i64 a, .int .i64 b, .int .i64 x] := by unfold statV; split <;> exact ⟨_, _, _, _, rfl⟩
  obtain ⟨n, a, b, x, hs⟩ := hs
  rw [hs]
  simp
  refine callm (stat2_c (h2.at H.mod) c) (by simp (disch := omega) [wI, wU, tmod_nn, tdiv_nn, env0_0, env0_1, env0_2, env0_3, env0_4, env0_5, -env0_apply]) ?_
  intro w' M'
  replace H := H.same M'
  rw [hs]
  simp
  refine ifg_r (t := true) (by simp) (fun _ => ?_) (fun h => (h rfl).elim)
  refine callm (k_c (h1.at H.mod) hf c) (by simp (disch := omega) [wI, wU, tmod_nn, tdiv_nn, env0_0, env0_1, env0_2, env0_3, env0_4, env0_5, -env0_apply]) ?_
  intro w' M'
  replace H := H.same M'
  simp
  refine ifg_r (t := true) (by simp) (fun _ => ?_) (fun h => (h rfl).elim)
  refine callm (k2_c (h2.at H.mod) hf c) (by simp (disch := omega) [wI, wU, tmod_nn, tdiv_nn, env0_0, env0_1, env0_2, env0_3, env0_4, env0_5, -env0_apply]) ?_
  intro w' M'
  replace H := H.same M'
  simp
  refine ifg_r (t := true) (by simp) (fun _ => ?_) (fun h => (h rfl).elim)
  refine callm (gue_c (h1.at H.mod) hf c g false) (by simp (disch := omega) [wI, wU, tmod_nn, tdiv_nn, env0_0, env0_1, env0_2, env0_3, env0_4, env0_5, -env0_apply]) ?_
  intro w' M'
  replace H := H.same M'
  simp
  refine ifg_r (t := true) (by simp) (fun _ => ?_) (fun h => (h rfl).elim)
  refine callm (gue2_c (h2.at H.mod) hf c g false) (by simp (disch := omega) [wI, wU, tmod_nn, tdiv_nn, env0_0, env0_1, env0_2, env0_3, env0_4, env0_5, -env0_apply]) ?_
  intro w' M'
  replace H := H.same M'
  simp
  refine ifg_r (t := true) (by simp) (fun _ => ?_) (fun h => (h rfl).elim)
  refine callm (gue_c (h1.at H.mod) hf c g true) (by simp (disch := omega) [wI, wU, tmod_nn, tdiv_nn, env0_0, env0_1, env0_2, env0_3, env0_4, env0_5, -env0_apply]) ?_
  intro w' M'
  replace H := H.same M'
  simp
  refine ifg_r (t := true) (by simp) (fun _ => ?_) (fun h => (h rfl).elim)
  refine callm (gue2_c (h2.at H.mod) hf c g true) (by simp (disch := omega) [wI, wU, tmod_nn, tdiv_nn, env0_0, env0_1, env0_2, env0_3, env0_4, env0_5, -env0_apply]) ?_
  intro w' M'
  replace H := H.same M'
  simp
  exact H.mod
theorem lrn_zero (f : Nat → Int) (c e : Int) : lrn f c e 0 = f 0 := by
  unfold lrn
  split
  · rename_i h
    have hc := isC_iff.1 h.1
    exact (up4_at f (ctxO c) _ _ _ _).2.2.2.2 0 (.inl (by unfold ctxO; omega))
  · rfl
theorem fold_bd (v : Int) {d : Int} (h : dep d = true) : -65536 ≤ foldI v d ∧ foldI v d ≤ 65536 := by
  have h1 := dep_iff.1 h
  have h2 := p2_bd h1.2
  have h4 := p2_bd (d := d - 1) (by omega)
  have h3 := mod_bd v h1.2
  rw [foldI, if_pos h]
  split <;> omega
theorem NewR.code {w w' : World} {d : Int} {r : Value} (h : NewR w d r w') : ∃ p, r = .tuple #[.pointer p, .int .i64 (if dep d = true then 0 else 1)] ∧ Mod none' w w' := by
  rcases h with ⟨h, rfl, M⟩ | ⟨h, t, rfl, H⟩
  · exact ⟨none, by rw [h]; rfl, M⟩
  · exact ⟨_, by rw [h]; rfl, H.mod⟩

set_option maxHeartbeats 8000000 in
theorem mplays_law {w : World} {tv cv ev : Value} {t cs es : List Int} (gs dp : Int) (ht : Rd (fun k => k < w.heap.size) w tv t.length (intsV t)) (hm : t.length ≤ maxLen) (hc : Rd (fun k => k < w.heap.size) w cv cs.length (intsV cs)) (he : Rd (fun k => k < w.heap.size) w ev es.length (intsV es))
    (hb : ∀ i, i < es.length → -9223372036854775808 ≤ gi es i ∧ gi es i ≤ 9223372036854775807) :
    Calls Try.prog 5 [tv, cv, ev, .int .i64 gs, .int .i64 dp].toArray w (Ret fun r w' => r = .bool true ∧ Mod none' w w') := by
  refine F_sound c5 (by simp [fc5]) ?_
  obtain ⟨cS, cL⟩ := hc.sl
  obtain ⟨eS, eL⟩ := he.sl
  simp [fc5, s5, cS, cL, eS, eL]
  by_cases hbig : 300 < cs.length ∨ 300 < es.length
  · refine ite_r (t := true) (by simp; omega) (fun _ => ?_) (fun h => by cases h)
    simp
    exact Mod.refl _ _
  refine ite_r (t := false) (by simp; omega) (fun h => by cases h) (fun _ => ?_)
  simp
  refine call_h (mnew_c dp) (by simp) ?_
  rintro r w1 hr
  obtain ⟨p1, rfl, M1⟩ := hr.code
  have H := Hp.ofMod M1
  simp
  refine call_h (mnew2_c dp) (by simp) ?_
  rintro r w2 hr
  obtain ⟨p2', rfl, M2⟩ := hr.code
  replace H := H.same M2
  generalize (if dep dp = true then (0 : Int) else 1) = code
  simp
  refine call_h (tnew_c t.length ht.cells1) (by simp) ?_
  rintro r w3 ⟨b, rfl, HR⟩
  replace H := H.join HR
  replace H : Hp w w3 [.tp b tv t.length] := H
  simp
  refine callp (within_c dp 1 16 (by omega) (by omega) (by omega)) (by simp) ?_
  have hd0 := with_bd (n := dp) (lo := 1) (hi := 16) (by omega)
  have hd : dep (withI dp 1 16) = true := dep_iff.2 hd0
  generalize withI dp 1 16 = d at *
  simp
  refine call_h (mnew_c d) (by simp) ?_
  rintro r w4 hr
  obtain ⟨t1, rfl, HR⟩ := hr.ok hd
  replace H := H.join HR
  simp
  refine call_h (mnew2_c d) (by simp) ?_
  rintro r w5 hr
  obtain ⟨t2, rfl, HR⟩ := hr.ok hd
  replace H := H.join HR
  replace H : Hp w w5 [.tp b tv t.length, .blk t1 (cellsF (newF d) 1461), .blk t2 (cellsF (newF d) 1461)] := H
  simp
  refine ite_r (t := false) (by simp) (fun h => by cases h) (fun _ => ?_)
  simp
  refine for_r 200 (fun i env' w' => env' 1 = cv ∧ env' 2 = ev ∧ env' 3 = .int .i64 gs ∧ env' 15 = .pointer (some ⟨b, 0, none⟩) ∧ env' 16 = .int .i64 d ∧ env' 17 = .pointer (some ⟨t1, 0, none⟩) ∧ env' 19 = .pointer (some ⟨t2, 0, none⟩) ∧ env' 21 = .int .i64 i ∧
    ∃ f, Wf f ∧ f 0 = d ∧ Hp w w' [.tp b tv t.length, .blk t1 (cellsF f 1461), .blk t2 (cellsF f 1461)]) ?_ ?_ ?_
  · simp
    exact ⟨newF d, newF_wf hd, rfl, H⟩
  · rintro i env w6 hi ⟨e1, e2, e3, e15, e16, e17, e19, e21, f, hf, hf0, H⟩
    have wi : IntKind.i64.wrap ((i : Int) + 1) = ((i + 1 : Nat) : Int) := by rw [wI (by omega) (by omega)]; omega
    simp [e21]
    refine ite_r (t := true) (by simp; omega) (fun _ => ?_) (fun h => by cases h)
    simp [wp_blk]
    obtain ⟨hT, hlow, upR, up⟩ := H.tp 0 rfl
    have hg : ¬ (b < w.heap.size) := by omega
    refine call_h (next_c hT (ht.at H.mod) hg hm 5 (by omega)) (by simp [e15]) ?_
    rintro r w7 ⟨q1, rfl, q10, q11, A⟩
    replace H := up _ A
    replace q11 := q11 (by omega)
    have wq : IntKind.i64.wrap (q1 * 80) = q1 * 80 := wI (by omega) (by omega)
    simp [wq]
    obtain ⟨hT, _, upR, up⟩ := H.tp 0 rfl
    refine call_h (next_c hT (ht.at H.mod) hg hm 65536 (by omega)) (by simp [e15]) ?_
    rintro r w8 ⟨q2, rfl, q20, q21, A⟩
    replace H := up _ A
    replace q21 := q21 (by omega)
    obtain ⟨hT, _, upR, up⟩ := H.tp 0 rfl
    refine call_h (next_c hT (ht.at H.mod) hg hm 16 (by omega)) (by simp [e15]) ?_
    rintro r w9 ⟨q3, rfl, q30, q31, A⟩
    replace H := up _ A
    replace q31 := q31 (by omega)
    have w3q : IntKind.u64.wrap q3 = q3 := wU (by omega) (by omega)
    have s3 := shr_p2 q2 (d := q3) (by omega) (by omega)
    simp [w3q, s3]
    refine ⟨by omega, ?_⟩
    refine callp (fold2_c' (q2 / p2 q3) d) (by simp [e16, w3q, s3]) ?_
    simp [e1, e2, e21, cS, cL, eS, eL]
    refine ite_cut (fun env' w' => env' 1 = cv ∧ env' 2 = ev ∧ env' 3 = .int .i64 gs ∧ env' 15 = .pointer (some ⟨b, 0, none⟩) ∧ env' 16 = .int .i64 d ∧ env' 17 = .pointer (some ⟨t1, 0, none⟩) ∧ env' 19 = .pointer (some ⟨t2, 0, none⟩) ∧ env' 21 = .int .i64 i ∧ env' 22 = .int .i64 (q1 * 80) ∧
      ∃ v, env' 23 = .int .i64 (foldI v d) ∧ ∃ f, Wf f ∧ f 0 = d ∧ Hp w w' [.tp b tv t.length, .blk t1 (cellsF f 1461), .blk t2 (cellsF f 1461)]) (t := decide (i < cs.length) && decide (i < es.length)) (by simp) ?_ ?_ ?_
    · intro hlt
      have hlt : i < cs.length ∧ i < es.length := by simpa using hlt
      obtain ⟨hlc, hle⟩ := hlt
      have gc := fun {w'} (M : Mod none' w w') => (hc.at M).gi i hlc
      have ge := fun {w'} (M : Mod none' w w') => (he.at M).gi i hle
      have pc := hc.some (by omega)
      have pe := he.some (by omega)
      have hbe := hb i hle
      have g1 := gc H.mod
      have g2 := ge H.mod
      simp [e1, e2, e21, cS, cL, eS, eL, hlc, hle, g1, g2, pc, pe]
      obtain ⟨hM1, _, _, up1⟩ := (H.drew).md 1 rfl
      refine call_h (learn_c hM1 hf (gi cs i) (gi es i)) (by simp [e17]) ?_
      rintro r w10 HA
      replace H := up1 _ _ HA
      replace H : Hp w w10 [.tp b tv t.length, .blk t1 (cellsF (lrn f (gi cs i) (gi es i)) 1461), .blk t2 (cellsF f 1461)] := H
      have g1 := gc H.mod
      have g2 := ge H.mod
      simp [e1, e2, e21, cS, cL, eS, eL, hlc, hle, g1, g2, pc, pe]
      obtain ⟨hM2, _, _, up2⟩ := (H.drew).md 2 rfl
      refine call_h (learn2_c hM2 hf (gi cs i) (gi es i) hbe) (by simp [e19]) ?_
      rintro r w11 HA
      replace H := up2 _ _ HA
      replace H : Hp w w11 [.tp b tv t.length, .blk t1 (cellsF (lrn f (gi cs i) (gi es i)) 1461), .blk t2 (cellsF (lrn f (gi cs i) (gi es i)) 1461)] := H
      have g2 := ge H.mod
      simp [e1, e2, e21, cS, cL, eS, eL, hlc, hle, g2, pc, pe]
      refine callp (fold2_c' (gi es i) d) (by simp [e16]) ?_
      simp [e1, e2, e3, e15, e16, e17, e19, e21]
      exact ⟨wq, ⟨_, rfl⟩, _, lrn_wf hf _ _, by rw [lrn_zero, hf0], H⟩
    · intro _
      simp [e1, e2, e3, e15, e16, e17, e19, e21]
      exact ⟨wq, ⟨_, rfl⟩, f, hf, hf0, H⟩
    rintro env w10 ⟨e1, e2, e3, e15, e16, e17, e19, e21, e22, v, e23, f, hf, hf0, H⟩
    have hfb := fold_bd v hd
    obtain ⟨hM1, _, _, up1⟩ := H.md 1 rfl
    refine call_h (learn_c hM1 hf (q1 * 80) (foldI v d)) (by simp [e17, e22, e23]) ?_
    rintro r w11 HA
    replace H := up1 _ _ HA
    replace H : Hp w w11 [.tp b tv t.length, .blk t1 (cellsF (lrn f (q1 * 80) (foldI v d)) 1461), .blk t2 (cellsF f 1461)] := H
    obtain ⟨hM2, _, _, up2⟩ := H.md 2 rfl
    refine call_h (learn2_c hM2 hf (q1 * 80) (foldI v d) (by omega)) (by simp [e19, e22, e23]) ?_
    rintro r w12 HA
    replace H := up2 _ _ HA
    replace H : Hp w w12 [.tp b tv t.length, .blk t1 (cellsF (lrn f (q1 * 80) (foldI v d)) 1461), .blk t2 (cellsF (lrn f (q1 * 80) (foldI v d)) 1461)] := H
    have hf := lrn_wf hf (q1 * 80) (foldI v d)
    have hf0 : lrn f (q1 * 80) (foldI v d) 0 = d := by rw [lrn_zero, hf0]
    generalize lrn f (q1 * 80) (foldI v d) = f at *
    simp
    refine callm (alike_c (H.md 1 rfl).1 (H.md 2 rfl).1 hf (q1 * 80) gs) (by simp (disch := omega) [wI, wU, tmod_nn, tdiv_nn, env0_0, env0_1, env0_2, env0_3, env0_4, env0_5, -env0_apply, e17, e19, e22, e3]) ?_
    intro w' M'
    replace H := H.same M'
    simp
    refine ifg_r (t := false) (by simp) (fun _ => ?_) (fun h => (h rfl).elim)
    refine callp (wrap2_c gs d) (by simp [e3, e16]) ?_
    simp
    refine ifg_r (t := false) (by simp) (fun _ => ?_) (fun h => (h rfl).elim)
    refine callm (alike_c (H.md 1 rfl).1 (H.md 2 rfl).1 hf (q1 * 80) (wrapI gs d)) (by simp (disch := omega) [wI, wU, tmod_nn, tdiv_nn, env0_0, env0_1, env0_2, env0_3, env0_4, env0_5, -env0_apply, e17, e19, e22, e3]) ?_
    intro w' M'
    replace H := H.same M'
    simp [e1, e21, cS, cL]
    by_cases hlc : i < cs.length
    · have gc := fun {w'} (M : Mod none' w w') => (hc.at M).gi i hlc
      have pc := hc.some (by omega)
      have g1 := gc H.mod
      simp [hlc, g1, pc, e1, e21, cS]
      refine ifg_r (t := true) (by simp) (fun _ => ?_) (fun h => (h rfl).elim)
      refine callm (alike_c (H.md 1 rfl).1 (H.md 2 rfl).1 hf (gi cs i) gs) (by simp (disch := omega) [wI, wU, tmod_nn, tdiv_nn, env0_0, env0_1, env0_2, env0_3, env0_4, env0_5, -env0_apply, e17, e19, e22, e3]) ?_
      intro w' M'
      replace H := H.same M'
      simp
      refine ite_r (t := false) (by simp) (fun h => by cases h) (fun _ => ?_)
      simp [e1, e2, e3, e15, e16, e17, e19, e21, wi, -Int.natCast_add]
      exact ⟨by omega, f, hf, hf0, H⟩
    · simp [hlc]
      refine ifg_r (t := false) (by simp) (fun h => by cases h) (fun _ => ?_)
      simp
      refine ite_r (t := false) (by simp) (fun h => by cases h) (fun _ => ?_)
      simp [e1, e2, e3, e15, e16, e17, e19, e21, wi, -Int.natCast_add]
      exact ⟨by omega, f, hf, hf0, H⟩
  · rintro env w6 ⟨e1, e2, e3, e15, e16, e17, e19, e21, f, hf, hf0, H⟩
    simp [e21]
    refine ite_r (t := false) (by simp) (fun h => by cases h) (fun _ => ?_)
    refine callm (known_c) (by simp (disch := omega) [wI, wU, tmod_nn, tdiv_nn, env0_0, env0_1, env0_2, env0_3, env0_4, env0_5, -env0_apply]) ?_
    intro w' M'
    replace H := H.same M'
    simp
    exact H.mod

end Go.Proofs.Ytcljnpodfhgjkaa.VG
