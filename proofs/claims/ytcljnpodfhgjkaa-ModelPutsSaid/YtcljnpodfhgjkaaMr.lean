/-
  Model: the last law.
-/
import Derived.Test.YtcljnpodfhgjkaaMq
namespace Go.Proofs.Ytcljnpodfhgjkaa.VG
open Go
set_option linter.unusedSimpArgs false
set_option linter.unusedVariables false
set_option maxRecDepth 20000

theorem pl_plane {p : List Int} {W H' : Nat} {d : Int} (h : IsPl p (W * H') d) (hW : 1 ≤ W ∧ W ≤ 64) (hH : 1 ≤ H' ∧ H' ≤ 64) (hd : dep d = true) : planeB p W H' d = true := by
  refine planeB_iff.2 ⟨by omega, by omega, hd, by rw [h.1, Int.natCast_mul], ?_⟩
  rw [List.all_eq_true]
  exact fun x hx => inD_iff.2 (h.2 x hx)
set_option maxHeartbeats 8000000 in
theorem mputs_law {w : World} {tv lv bv : Value} {t l : List Int} {bb : List Nat} (wd hh dp : Int) (ht : Rd (fun k => k < w.heap.size) w tv t.length (intsV t)) (hm : t.length ≤ maxLen) (hl : Rd (fun k => k < w.heap.size) w lv l.length (intsV l))
    (hb : Rd (fun k => k < w.heap.size) w bv bb.length (bytesV bb)) (hbf : ∀ x ∈ bb, x < 256) :
    Calls Try.prog 7 [tv, lv, .int .i64 wd, .int .i64 hh, .int .i64 dp, bv].toArray w (Ret fun r w' => r = .bool true ∧ Mod none' w w') := by
  refine F_sound c7 (by simp [fc7]) ?_
  obtain ⟨lS, lL⟩ := hl.sl
  obtain ⟨bS, bL⟩ := hb.sl
  simp [fc7, s7, lS, lL, bS, bL]
  by_cases hbig : 1000 < l.length ∨ 1000 < bb.length
  · refine ite_r (t := true) (by simp; omega) (fun _ => ?_) (fun h => by cases h)
    simp
    exact Mod.refl _ _
  refine ite_r (t := false) (by simp; omega) (fun h => by cases h) (fun _ => ?_)
  simp
  refine call_h (tnew_c t.length ht.cells1) (by simp) ?_
  rintro r w1 ⟨b, rfl, H⟩
  simp
  obtain ⟨hT, hlow, upR, up⟩ := H.tp 0 rfl
  have hg : ¬ (b < w.heap.size) := by omega
  refine call_h (next_c hT (ht.at H.mod) hg hm 16 (by omega)) (by simp) ?_
  rintro r w2 ⟨a, rfl, a0, a1, A⟩
  replace H := up _ A
  replace a1 := a1 (by omega)
  obtain ⟨W, hW⟩ : ∃ W : Nat, 1 + a = W := ⟨(1 + a).toNat, by omega⟩
  have wW : IntKind.i64.wrap (1 + a) = W := by rw [wI (by omega) (by omega), hW]
  simp [wW]
  obtain ⟨hT, _, upR, up⟩ := H.tp 0 rfl
  refine call_h (next_c hT (ht.at H.mod) hg hm 16 (by omega)) (by simp) ?_
  rintro r w3 ⟨c, rfl, c0, c1, A⟩
  replace H := up _ A
  replace c1 := c1 (by omega)
  obtain ⟨H', hH⟩ : ∃ H' : Nat, 1 + c = H' := ⟨(1 + c).toNat, by omega⟩
  have wH : IntKind.i64.wrap (1 + c) = H' := by rw [wI (by omega) (by omega), hH]
  simp [wW, wH]
  obtain ⟨hT, _, upR, up⟩ := H.tp 0 rfl
  refine call_h (depth_c hT (ht.at H.mod) hg hm (fun k hk => by have := H.mod.size; omega)) (by simp) ?_
  rintro r w4 ⟨d, rfl, hd, A⟩
  replace H := up _ A
  simp [wW, wH]
  obtain ⟨hT, _, upR, up⟩ := H.tp 0 rfl
  refine call_h (plane_c hT (ht.at H.mod) hg hm (fun k hk => by have := H.mod.size; omega) W H' d (by omega) (by omega) (by omega) hd) (by simp) ?_
  rintro pv w5 ⟨p, hpl, A, hs⟩
  replace H := upR _ _ A hs
  have hln := hpl.1
  have hmm : W * H' ≤ 16 * 16 := Nat.mul_le_mul (by omega) (by omega)
  have hpp := pl_plane hpl (by omega) (by omega) hd
  rw [← hln] at H
  replace H : Hp w w5 [.tp b tv t.length, .own 3 1 pv p.length (intsV p)] := H
  simp
  refine wrbox_h H (by simp) ?_
  intro ob w6 H M6
  refine ⟨.inl rfl, ?_⟩
  replace H : Hp w w6 [.tp b tv t.length, .own 3 1 pv p.length (intsV p), .wr ob []] := H
  simp
  obtain ⟨FW, hWr, hFW, upW, rdW⟩ := H.wr 2 rfl
  obtain ⟨G1, hr1, hd1⟩ := rdW 1 _ _ _ _ _ (by decide) rfl
  refine call_h (mput_c W H' d hWr hr1 hd1 (by omega) (by simp)) (by simp) ?_
  rintro r w7 ⟨rfl, AW⟩
  replace H := upW _ _ AW
  have hp0 : putS p W H' d = 0 := by rw [putS, if_pos hpp]
  have hgot := put_got hpp
  have hpb := putBits_le (l := p) (by omega) W H' d
  rw [hp0]
  replace H : Hp w w7 [.tp b tv t.length, .own 3 1 pv p.length (intsV p), .wr ob (putBits p W H' d)] := by simpa using H
  generalize putBits p W H' d = bs at *
  simp
  obtain ⟨FW, hWr, _⟩ := H.wr 2 rfl
  refine call_h (bytes_c hWr (by omega)) (by simp) ?_
  intro vb w8 A
  replace H := H.newBytes A
  have hpf := packB_fits bs
  have hpl8 : (packB bs).length ≤ 65000000 := by rw [packB_length]; omega
  generalize packB bs = cb at *
  replace H : Hp w w8 [.tp b tv t.length, .own 3 1 pv p.length (intsV p), .wr ob bs, .own 5 1 vb cb.length (bytesV cb)] := H
  simp
  refine call_h (new_c (H.rd 3 rfl) hpf (by omega)) (by simp) ?_
  rintro r w9 ⟨rb, GR, rfl, hR, M9, hGR⟩
  replace H := H.newRr hR M9 hGR
  replace H : Hp w w9 [.tp b tv t.length, .own 3 1 pv p.length (intsV p), .wr ob bs, .own 5 1 vb cb.length (bytesV cb), .rr rb cb 0 0] := H
  obtain ⟨F, hRr, hFl, upR⟩ := H.upR 4 rfl
  refine call_h (mget_c hRr W H' d) (by simp) ?_
  rintro r w10 ⟨u, rfl, q1, q2, q3⟩
  rw [hgot] at q1 q3
  replace H := upR (.rr rb cb bs.length 0) w10 F _ q2 q1 (fun k hk => hk) q3
  rw [hgot]
  replace H : Hp w w10 [.tp b tv t.length, .own 3 1 pv p.length (intsV p), .wr ob bs, .own 5 1 vb cb.length (bytesV cb), .rr rb cb bs.length 0, .own 3 1 u p.length (intsV p)] := H
  simp
  have big : ∀ {w' : World}, Hp w w' [.tp b tv t.length, .own 3 1 pv p.length (intsV p), .wr ob bs, .own 5 1 vb cb.length (bytesV cb), .rr rb cb bs.length 0, .own 3 1 u p.length (intsV p)] → ∀ k, k < w.heap.size → k < w'.heap.size := fun H k hk => Nat.lt_of_lt_of_le hk H.mod.size
  refine callm (mputs_c W H' d (H.rdl 1 rfl) (by omega)) (by simp (disch := omega) [wI, wU, tmod_nn, tdiv_nn, env0_0, env0_1, env0_2, env0_3, env0_4, env0_5, -env0_apply]) ?_
  intro w' M'
  replace H := H.same M'
  simp
  refine ifg_r (t := true) (by simp) (fun _ => ?_) (fun h => (h rfl).elim)
  refine callm (mputs_c wd hh dp ((hl.at H.mod).mono (big H)) (by omega)) (by simp (disch := omega) [wI, wU, tmod_nn, tdiv_nn, env0_0, env0_1, env0_2, env0_3, env0_4, env0_5, -env0_apply]) ?_
  intro w' M'
  replace H := H.same M'
  simp
  refine ifg_r (t := true) (by simp) (fun _ => ?_) (fun h => (h rfl).elim)
  refine callm (ints_c (H.rd 5 rfl) (H.rd 1 rfl) (by unfold maxLen; omega)) (by simp (disch := omega) [wI, wU, tmod_nn, tdiv_nn, env0_0, env0_1, env0_2, env0_3, env0_4, env0_5, -env0_apply]) ?_
  intro w' M'
  replace H := H.same M'
  simp
  refine ifg_r (t := true) (by simp) (fun _ => ?_) (fun h => (h rfl).elim)
  refine callm (mgets_c W H' d (H.rdl 3 rfl) hpf (by omega) (fun k hk => hk)) (by simp (disch := omega) [wI, wU, tmod_nn, tdiv_nn, env0_0, env0_1, env0_2, env0_3, env0_4, env0_5, -env0_apply]) ?_
  intro w' M'
  replace H := H.same M'
  obtain ⟨vS, vL⟩ := (H.rd 3 rfl).sl
  have hdv : ((cb.length : Int)).tdiv 2 = ((cb.length / 2 : Nat) : Int) := by rw [Int.tdiv_eq_ediv_of_nonneg (by omega)]; rfl
  have hcap := (H.rc 3 rfl).cap
  have wdv : IntKind.i64.wrap ((cb.length / 2 : Nat) : Int) = ((cb.length / 2 : Nat) : Int) := wI (by omega) (by omega)
  have hc2 : Rc (fun k => k < w'.heap.size) w' vb cb.length (bytesV cb) := ⟨H.rdl 3 rfl, (H.rc 3 rfl).cap, (H.rc 3 rfl).len⟩
  have hcut := hc2.cut 0 (cb.length / 2) (Nat.zero_le _) (Nat.div_le_self _ _)
  have ebv : ((bytesV cb).take (cb.length / 2)).drop 0 = bytesV (cb.take (cb.length / 2)) := by rw [List.drop_zero, bytesV, bytesV, List.map_take]
  have eln : cb.length / 2 - 0 = (cb.take (cb.length / 2)).length := by rw [List.length_take]; omega
  rw [ebv, eln] at hcut
  have e2 : ((cb.length : Int) / 2).toNat = cb.length / 2 := by omega
  simp [-Int.natCast_ediv, vS, vL, hdv, wdv]
  refine ⟨by omega, ?_⟩
  refine ifg_r (t := true) (by simp) (fun _ => ?_) (fun h => (h rfl).elim)
  refine callm (mgets_c W H' d hcut.rd (fun x hx => hpf x (List.mem_of_mem_take hx)) (by rw [List.length_take]; omega) (fun k hk => hk)) (by simp (disch := omega) [wI, wU, tmod_nn, tdiv_nn, env0_0, env0_1, env0_2, env0_3, env0_4, env0_5, -env0_apply, -Int.natCast_ediv, vS, vL, hdv, wdv, e2]) ?_
  intro w' M'
  replace H := H.same M'
  simp
  refine ifg_r (t := true) (by simp) (fun _ => ?_) (fun h => (h rfl).elim)
  refine callm (mgets_c H' W d (H.rdl 3 rfl) hpf (by omega) (fun k hk => hk)) (by simp (disch := omega) [wI, wU, tmod_nn, tdiv_nn, env0_0, env0_1, env0_2, env0_3, env0_4, env0_5, -env0_apply]) ?_
  intro w' M'
  replace H := H.same M'
  simp
  refine ifg_r (t := true) (by simp) (fun _ => ?_) (fun h => (h rfl).elim)
  refine callm (mgets_c wd hh dp (hb.at H.mod) hbf (by omega) (big H)) (by simp (disch := omega) [wI, wU, tmod_nn, tdiv_nn, env0_0, env0_1, env0_2, env0_3, env0_4, env0_5, -env0_apply]) ?_
  intro w' M'
  replace H := H.same M'
  simp
  refine ifg_r (t := true) (by simp) (fun _ => ?_) (fun h => (h rfl).elim)
  refine callm (mgets_c W H' d (hb.at H.mod) hbf (by omega) (big H)) (by simp (disch := omega) [wI, wU, tmod_nn, tdiv_nn, env0_0, env0_1, env0_2, env0_3, env0_4, env0_5, -env0_apply]) ?_
  intro w' M'
  replace H := H.same M'
  simp
  refine ifg_r (t := true) (by simp) (fun _ => ?_) (fun h => (h rfl).elim)
  refine callm (known_c) (by simp (disch := omega) [wI, wU, tmod_nn, tdiv_nn, env0_0, env0_1, env0_2, env0_3, env0_4, env0_5, -env0_apply]) ?_
  intro w' M'
  replace H := H.same M'
  simp
  exact H.mod

end Go.Proofs.Ytcljnpodfhgjkaa.VG
