/-
  Guesses: the laws of planes.
-/
import Derived.Test.YtifdamadeleigaaGh
namespace Go.Proofs.Ytifdamadeleigaa.VG
open Go
set_option linter.unusedSimpArgs false
set_option linter.unusedVariables false

theorem Rd.cells1 {F : Nat → Prop} {w : World} {v : Value} {n : Nat} {xs : List Value} (h : Rd F w v n xs) : v.cells = #[v] := by obtain ⟨cap, hv⟩ := h.is; rw [hv]; rfl

set_option maxHeartbeats 4000000 in
theorem gback_law {w : World} {tv : Value} {t : List Int} (ht : Rd (fun k => k < w.heap.size) w tv t.length (intsV t)) (hm : t.length ≤ maxLen) :
    Calls Try.prog 5 [tv].toArray w (Ret fun r w' => r = .bool true ∧ Mod none' w w') := by
  refine F_sound c5 (by simp [fc5]) ?_
  simp [fc5, s5]
  refine call_h (tnew_c t.length ht.cells1) (by simp) ?_
  rintro r w1 ⟨b, rfl, H⟩
  simp
  obtain ⟨hT, hlow, upR, up⟩ := H.tp 0 rfl
  have hg : ¬ (b < w.heap.size) := by omega
  refine call_h (next_c hT (ht.at H.mod) hg hm 24 (by omega)) (by simp) ?_
  rintro r w2 ⟨a, rfl, a0, a1, A⟩
  replace H := up _ A
  replace a1 := a1 (by omega)
  obtain ⟨W, hW⟩ : ∃ W : Nat, 1 + a = W := ⟨(1 + a).toNat, by omega⟩
  have wW : IntKind.i64.wrap (1 + a) = W := by rw [wI (by omega) (by omega), hW]
  simp [wW]
  obtain ⟨hT, _, upR, up⟩ := H.tp 0 rfl
  refine call_h (next_c hT (ht.at H.mod) hg hm 24 (by omega)) (by simp) ?_
  rintro r w3 ⟨c, rfl, c0, c1, A⟩
  replace H := up _ A
  replace c1 := c1 (by omega)
  obtain ⟨H', hH⟩ : ∃ H' : Nat, 1 + c = H' := ⟨(1 + c).toNat, by omega⟩
  have wH : IntKind.i64.wrap (1 + c) = H' := by rw [wI (by omega) (by omega), hH]
  simp [wW, wH]
  obtain ⟨hT, _, upR, up⟩ := H.tp 0 rfl
  refine call_h (depth_c hT (ht.at H.mod) hg hm (fun k hk => by have := H.mod.size; omega)) (by simp) ?_
  rintro r w4 ⟨d, rfl, hd, A⟩
  replace H := up _ A
  simp [wW, wH]
  obtain ⟨hT, _, upR, up⟩ := H.tp 0 rfl
  refine call_h (plane_c hT (ht.at H.mod) hg hm (fun k hk => by have := H.mod.size; omega) W H' d (by omega) (by omega) (by omega) hd) (by simp) ?_
  rintro pv w5 ⟨p, hpl, A, hs⟩
  replace H := upR _ _ A hs
  simp
  obtain ⟨hT, _, upR, up⟩ := H.tp 0 rfl
  refine call_h (tkinds_c hT (ht.at H.mod) hg hm H' (by omega)) (by simp) ?_
  rintro kv w6 ⟨ks, hk1, hk2, A, hs⟩
  replace H := upR _ _ A hs
  have hpp := pl_plane hpl (by omega) (by omega) hd
  have hkk := kinds_ok' hk1 hk2
  have hln := hpl.1
  have hmm : W * H' ≤ 24 * 24 := Nat.mul_le_mul (by omega) (by omega)
  obtain ⟨_, _, _, _, hall⟩ := planeB_iff.1 hpp
  have hpr : Rd (fun _ => True) w6 pv p.length (intsV p) := by rw [hln]; exact (H.rd 1 rfl).top
  have hkr := (H.rd 2 rfl).top
  have e1 : foreS p W H' d ks = (foreTo p W d ks p.length, 0) := by rw [foreS, if_pos ⟨hpp, hkk⟩]; rfl
  have hfp := fore_plane (ks := ks) hpp
  have hbp := back_plane (ks := ks) hpp
  simp only [Int.toNat_natCast] at hfp hbp
  have e2 : backS (foreTo p W d ks p.length) W H' d ks = (p, 0) := by
    rw [backS, if_pos ⟨hfp, hkk⟩, foreTo_len, Int.toNat_natCast, back_fore (by omega) ks hd hall p.length (Nat.le_refl _), List.take_length]
  have e3 : backS p W H' d ks = (backTo p W d ks p.length, 0) := by rw [backS, if_pos ⟨hpp, hkk⟩]; rfl
  have e4 : foreS (backTo p W d ks p.length) W H' d ks = (p, 0) := by
    rw [foreS, if_pos ⟨hbp, hkk⟩, backTo_len, Int.toNat_natCast, fore_back (by omega) ks hd hall p.length (Nat.le_refl _), List.take_length]
  have hfl := foreTo_len p W d ks p.length
  have hbl := backTo_len p W d ks p.length
  simp
  refine call_h (fore_c W H' d hpr hkr (by omega) (by omega)) (by simp) ?_
  rw [e1]
  rintro r w7 ⟨u1, rfl, HR⟩
  replace H := H.join HR
  simp only at H
  simp
  generalize foreTo p W d ks p.length = fp at *
  generalize backTo p W d ks p.length = bp at *
  refine call_h (back_c W H' d (H.rd 3 rfl) (H.rd 2 rfl) (by omega) (by omega)) (by simp) ?_
  rw [e2]
  rintro r w8 ⟨u2, rfl, HR⟩
  replace H := H.join HR
  simp only at H
  simp
  have hpr8 : Rd (fun _ => True) w8 pv p.length (intsV p) := by rw [hln]; exact (H.rd 1 rfl).top
  refine call_h (back_c W H' d hpr8 (H.rd 2 rfl).top (by omega) (by omega)) (by simp) ?_
  rw [e3]
  rintro r w9 ⟨u3, rfl, HR⟩
  replace H := H.join HR
  simp only at H
  simp
  refine call_h (fore_c W H' d (H.rd 5 rfl) (H.rd 2 rfl) (by omega) (by omega)) (by simp) ?_
  rw [e4]
  rintro r w10 ⟨u4, rfl, HR⟩
  replace H := H.join HR
  simp only at H
  simp
  refine ifg_r (t := true) (by simp) (fun _ => ?_) (fun h => (h rfl).elim)
  have hpr10 : Rd (fun _ => True) w10 pv p.length (intsV p) := by rw [hln]; exact (H.rd 1 rfl).top
  refine callm (ints_c (l := p) (m := p) (H.rd 4 rfl) hpr10 (by unfold maxLen; omega)) (by simp (disch := omega) [wI, wU, tmod_nn, tdiv_nn, env0_0, env0_1, env0_2, env0_3, env0_4, env0_5, -env0_apply]) ?_
  intro w' M'
  replace H := H.same M'
  simp
  refine ifg_r (t := true) (by simp) (fun _ => ?_) (fun h => (h rfl).elim)
  have hpr11 : Rd (fun _ => True) w' pv p.length (intsV p) := by rw [hln]; exact (H.rd 1 rfl).top
  refine callm (ints_c (l := p) (m := p) (H.rd 6 rfl) hpr11 (by unfold maxLen; omega)) (by simp (disch := omega) [wI, wU, tmod_nn, tdiv_nn, env0_0, env0_1, env0_2, env0_3, env0_4, env0_5, -env0_apply]) ?_
  intro w' M'
  replace H := H.same M'
  simp
  refine ifg_r (t := true) (by simp) (fun _ => ?_) (fun h => (h rfl).elim)
  refine callm (gknown_c) (by simp (disch := omega) [wI, wU, tmod_nn, tdiv_nn, env0_0, env0_1, env0_2, env0_3, env0_4, env0_5, -env0_apply]) ?_
  intro w' M'
  replace H := H.same M'
  simp
  exact H.mod

set_option maxHeartbeats 4000000 in
theorem gtells_law {w : World} {tv lv kv : Value} {t l ks : List Int} (wd h d : Int) (ht : Rd (fun k => k < w.heap.size) w tv t.length (intsV t)) (hm : t.length ≤ maxLen) (hl : Rd (fun k => k < w.heap.size) w lv l.length (intsV l)) (hk : Rd (fun k => k < w.heap.size) w kv ks.length (intsV ks)) :
    Calls Try.prog 7 [tv, lv, .int .i64 wd, .int .i64 h, .int .i64 d, kv].toArray w (Ret fun r w' => r = .bool true ∧ Mod none' w w') := by
  refine F_sound c7 (by simp [fc7]) ?_
  obtain ⟨lS, lL⟩ := hl.sl
  obtain ⟨kS, kL⟩ := hk.sl
  simp [fc7, s7, lS, lL, kS, kL]
  by_cases hbig : 4200 < l.length ∨ 100 < ks.length
  · refine ite_r (t := true) (by simp; omega) (fun _ => ?_) (fun h => by cases h)
    simp
    exact Mod.refl _ _
  refine ite_r (t := false) (by simp; omega) (fun h => by cases h) (fun _ => ?_)
  simp
  refine call_h (tnew_c t.length ht.cells1) (by simp) ?_
  rintro r w1 ⟨b, rfl, H⟩
  simp
  obtain ⟨hT, hlow, upR, up⟩ := H.tp 0 rfl
  have hg : ¬ (b < w.heap.size) := by omega
  refine call_h (next_c hT (ht.at H.mod) hg hm 20 (by omega)) (by simp) ?_
  rintro r w2 ⟨a, rfl, a0, a1, A⟩
  replace H := up _ A
  replace a1 := a1 (by omega)
  obtain ⟨W, hW⟩ : ∃ W : Nat, 1 + a = W := ⟨(1 + a).toNat, by omega⟩
  have wW : IntKind.i64.wrap (1 + a) = W := by rw [wI (by omega) (by omega), hW]
  simp [wW]
  obtain ⟨hT, _, upR, up⟩ := H.tp 0 rfl
  refine call_h (next_c hT (ht.at H.mod) hg hm 20 (by omega)) (by simp) ?_
  rintro r w3 ⟨c, rfl, c0, c1, A⟩
  replace H := up _ A
  replace c1 := c1 (by omega)
  obtain ⟨H', hH⟩ : ∃ H' : Nat, 1 + c = H' := ⟨(1 + c).toNat, by omega⟩
  have wH : IntKind.i64.wrap (1 + c) = H' := by rw [wI (by omega) (by omega), hH]
  simp [wW, wH]
  obtain ⟨hT, _, upR, up⟩ := H.tp 0 rfl
  refine call_h (depth_c hT (ht.at H.mod) hg hm (fun k hk => by have := H.mod.size; omega)) (by simp) ?_
  rintro r w4 ⟨D, rfl, hd, A⟩
  replace H := up _ A
  simp [wW, wH]
  obtain ⟨hT, _, upR, up⟩ := H.tp 0 rfl
  refine call_h (plane_c hT (ht.at H.mod) hg hm (fun k hk => by have := H.mod.size; omega) W H' D (by omega) (by omega) (by omega) hd) (by simp) ?_
  rintro pv w5 ⟨p, hpl, A, hs⟩
  replace H := upR _ _ A hs
  simp
  obtain ⟨hT, _, upR, up⟩ := H.tp 0 rfl
  refine call_h (tkinds_c hT (ht.at H.mod) hg hm H' (by omega)) (by simp) ?_
  rintro qv w6 ⟨qs, hk1, hk2, A, hs⟩
  replace H := upR _ _ A hs
  have hln := hpl.1
  have hmm : W * H' ≤ 20 * 20 := Nat.mul_le_mul (by omega) (by omega)
  have hp6 : ∀ {w'}, Hp w w' [.tp b tv t.length, .own 3 1 pv (W * H') (intsV p), .own 3 1 qv qs.length (intsV qs)] → Rd (fun _ => True) w' pv p.length (intsV p) := fun H => by rw [hln]; exact (H.rd 1 rfl).top
  replace H : Hp w w6 [.tp b tv t.length, .own 3 1 pv (W * H') (intsV p), .own 3 1 qv qs.length (intsV qs)] := H
  simp
  refine callm (gsame_c W H' D (hp6 H) (H.rd 2 rfl).top (by omega) (by omega)) (by simp (disch := omega) [wI, wU, tmod_nn, tdiv_nn, env0_0, env0_1, env0_2, env0_3, env0_4, env0_5, -env0_apply]) ?_
  intro w' M'
  replace H := H.same M'
  simp
  refine ifg_r (t := true) (by simp) (fun _ => ?_) (fun h => (h rfl).elim)
  refine callm (gsame_c W H' D (hp6 H) (hk.at H.mod).top (by omega) (by omega)) (by simp (disch := omega) [wI, wU, tmod_nn, tdiv_nn, env0_0, env0_1, env0_2, env0_3, env0_4, env0_5, -env0_apply]) ?_
  intro w' M'
  replace H := H.same M'
  simp
  refine ifg_r (t := true) (by simp) (fun _ => ?_) (fun h => (h rfl).elim)
  refine callm (gsame_c wd h d (hl.at H.mod) (hk.at H.mod) (by omega) (by omega)) (by simp (disch := omega) [wI, wU, tmod_nn, tdiv_nn, env0_0, env0_1, env0_2, env0_3, env0_4, env0_5, -env0_apply]) ?_
  intro w' M'
  replace H := H.same M'
  simp
  refine ifg_r (t := true) (by simp) (fun _ => ?_) (fun h => (h rfl).elim)
  refine callm (gsame_c H' W D (hp6 H) (H.rd 2 rfl).top (by omega) (by omega)) (by simp (disch := omega) [wI, wU, tmod_nn, tdiv_nn, env0_0, env0_1, env0_2, env0_3, env0_4, env0_5, -env0_apply]) ?_
  intro w' M'
  replace H := H.same M'
  simp
  refine ifg_r (t := true) (by simp) (fun _ => ?_) (fun h => (h rfl).elim)
  have hbl := fun w h d (l : List Int) => show (bestS l w h d).length ≤ 1000000 from by
    unfold bestS
    split
    · rename_i hp
      rw [bstKs_len]
      have := (planeB_iff.1 hp).2.1
      omega
    · simp
  refine call_h (gbest_c W H' D (hp6 H) (by omega)) (by simp) ?_
  intro u1 w11 HR
  have H2 := H.join HR
  simp
  refine ifg_r (t := true) (by simp) (fun _ => ?_) (fun h => (h rfl).elim)
  refine call_h (gbest2_c W H' D ((hp6 H).at HR.mod) (by omega)) (by simp) ?_
  intro u2 w12 HR2
  replace H2 := H2.join HR2
  simp
  refine ifg_r (t := true) (by simp) (fun _ => ?_) (fun h => (h rfl).elim)
  have hb1 := hbl W H' D p
  refine callm (ints_c (l := bestS p W H' D) (m := bestS p W H' D) (H2.rd 3 rfl) (H2.rd 4 rfl) (by unfold maxLen; omega)) (by simp) ?_
  intro w13 M13
  replace H2 := H2.same M13
  simp
  refine ifg_r (t := true) (by simp) (fun _ => ?_) (fun h => (h rfl).elim)
  have hb2 := hbl wd h d l
  refine call_h (gbest_c wd h d (hl.at H2.mod) (by omega)) (by simp) ?_
  intro u3 w14 HR
  replace H2 := H2.join HR
  simp
  refine ifg_r (t := true) (by simp) (fun _ => ?_) (fun h => (h rfl).elim)
  refine call_h (gbest2_c wd h d (hl.at H2.mod) (by omega)) (by simp) ?_
  intro u4 w15 HR
  replace H2 := H2.join HR
  simp
  refine ifg_r (t := true) (by simp) (fun _ => ?_) (fun h => (h rfl).elim)
  refine callm (ints_c (l := bestS l wd h d) (m := bestS l wd h d) (H2.rd 5 rfl) (H2.rd 6 rfl) (by unfold maxLen; omega)) (by simp) ?_
  intro w16 M16
  replace H2 := H2.same M16
  simp
  refine ifg_r (t := true) (by simp) (fun _ => ?_) (fun h => (h rfl).elim)
  refine callp (weight_c d (hl.at H2.mod) (by omega)) (by simp) ?_
  simp
  refine ifg_r (t := true) (by simp) (fun _ => ?_) (fun h => (h rfl).elim)
  refine callp (weight2_c d (hl.at H2.mod) (by omega)) (by simp) ?_
  simp
  refine ifg_r (t := true) (by simp) (fun _ => ?_) (fun h => (h rfl).elim)
  refine callp (weight_c D (hl.at H2.mod) (by omega)) (by simp) ?_
  simp
  refine ifg_r (t := true) (by simp) (fun _ => ?_) (fun h => (h rfl).elim)
  refine callp (weight2_c D (hl.at H2.mod) (by omega)) (by simp) ?_
  simp
  refine ifg_r (t := true) (by simp) (fun _ => ?_) (fun h => (h rfl).elim)
  refine callm gknown_c (by simp) ?_
  intro w17 M17
  replace H2 := H2.same M17
  simp
  exact H2.mod

end Go.Proofs.Ytifdamadeleigaa.VG
