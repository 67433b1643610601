/-
  Rice: the laws of getting.
-/
import Derived.Test.YtkhjmlfnmakkpaaRh
namespace Go.Proofs.Ytkhjmlfnmakkpaa.VG
open Go
set_option linter.unusedSimpArgs false
set_option linter.unusedVariables false

theorem getF_len (l : List Nat) (K : Nat) : ∀ n p out, (getF l K n p out).1.1.length ≤ out.length + n
  | 0, p, out => by simp [getF]
  | n + 1, p, out => by
    simp only [getF]
    split
    · simp
    · have := getF_len l K n (oneS l p K).2.1 (out ++ [(oneS l p K).1.1])
      simp at this
      omega
theorem getS_len (l : List Nat) (p : Nat) (e k n : Int) : (getS l p e k n).1.1.length ≤ 4194304 := by
  unfold getS
  split
  · simp
  rename_i h
  split
  · simp
  · have := getF_len l k.toNat n.toNat p []
    simp at this
    omega

set_option maxHeartbeats 1000000 in
theorem rgets_c {w : World} {v : Value} {l : List Nat} (k n skip : Int) (h : Rd (fun b => b < w.heap.size) w v l.length (bytesV l)) (hf : ∀ x ∈ l, x < 256) : Calls Try.prog 6 [v, .int .i64 k, .int .i64 n, .int .i64 skip].toArray w (Ret fun r w' => r = .bool true ∧ Mod none' w w') := by
  refine F_sound c6 (by simp [fc6]) ?_
  obtain ⟨hS, hL⟩ := h.sl
  simp [fc6, s6]
  refine callm rknown_c (by simp) ?_
  intro w1 M1
  have H := Hp.ofMod M1
  simp
  refine ite_r (t := false) (by simp) (fun h => by cases h) (fun _ => ?_)
  simp [hS, hL]
  by_cases hbig : 200 < l.length ∨ 1700 < n ∧ n ≤ 4194304
  · refine ite_r (t := true) (by simp; omega) (fun _ => ?_) (fun h => by cases h)
    simp
    exact M1
  refine ite_r (t := false) (by simp; omega) (fun h => by cases h) (fun _ => ?_)
  simp
  refine call_h (new_c (h.at H.mod) hf (by omega)) (by simp) ?_
  rintro r w2 ⟨b, G, rfl, hR, M2, hG⟩
  replace H := H.newRr hR M2 hG
  refine call_h (ynew_c (h.at H.mod) (fun k hk => by have := H.mod.size; omega) hf (by omega)) (by simp) ?_
  rintro r w3 ⟨c, rfl, hc, hY, M3⟩
  replace H := H.add (i := .blk c #[v, .int .i64 ((0 : Nat) : Int), .int .i64 0]) (F := fun k => k = c) M3 ⟨hY.is, rfl⟩ (fun k hk => by omega)
  have hle := hY.le
  simp
  refine ite_r (t := false) (by simp) (fun h => by cases h) (fun _ => ?_)
  simp
  obtain ⟨FW, hW, hFW, upW⟩ := H.rr 0 rfl
  refine call_h (get_c hW skip) (by simp (disch := omega) [wI, wU, tmod_nn, tdiv_nn, env0_0, env0_1, env0_2, env0_3, env0_4, env0_5, -env0_apply]) ?_
  rintro r wW ⟨rfl, AW⟩
  replace H := upW _ _ _ AW
  obtain ⟨hY, upY⟩ := H.yr 1 rfl h hf hle (by omega)
  refine call_h (yget_c hY skip) (by simp) ?_
  rintro r w5 ⟨rfl, AY⟩
  replace H := upY _ _ _ AY
  have hle := AY.1.le
  generalize rGet l 0 0 skip = g at *
  obtain ⟨g1, p, e⟩ := g
  simp only at *
  obtain ⟨F, hR, up⟩ := H.rrRow 0 rfl
  refine call_h (rget_c hR k n) (by simp) ?_
  rintro r w6 ⟨⟨u, rfl, hu1, hu2⟩, A⟩
  replace H := up _ _ _ _ _ _ A hu1 hu2
  simp
  obtain ⟨hY, _⟩ := H.yr 1 rfl h hf hle (by omega)
  have upY := H.yrRow (bs := l) 1 rfl
  refine call_h (xrget_c hY (fun k hk => by have := H.mod.size; omega) k n) (by simp) ?_
  rintro r w7 ⟨⟨u', rfl, hv1, hv2⟩, A⟩
  replace H := upY _ _ _ _ _ _ A hv1 hv2
  have hlen := getS_len l p e k n
  generalize getS l p e k n = s at *
  obtain ⟨⟨out, er⟩, q, e'⟩ := s
  simp only at *
  simp
  replace H := H.drew
  refine callm (sameInts_c (l := out) (m := out) (H.rd 2 rfl) (H.rd 3 rfl) (by unfold maxLen; omega)) (by simp (disch := omega) [wI, wU, tmod_nn, tdiv_nn, env0_0, env0_1, env0_2, env0_3, env0_4, env0_5, -env0_apply]) ?_
  intro w' M'
  replace H := H.same M'
  have hc := H.blk 1 rfl 1
  simp at hc
  simp [hc]
  by_cases her : er = 0
  · refine ifg_r (t := false) (by simp [her]) (fun _ => ?_) (fun h => (h rfl).elim)
    obtain ⟨F, hR, _⟩ := H.rr 0 rfl
    refine call_r _ (at_c hR) (by simp) ?_
    rintro r _ ⟨rfl, rfl⟩
    refine ⟨by simp [promOk, SameCells], ?_⟩
    simp [her, hc]
    exact H.mod
  · refine ifg_r (t := true) (by simp [her]) (fun h => by cases h) (fun _ => ?_)
    simp [her]
    exact H.mod

set_option maxHeartbeats 1000000 in
theorem rback_c {w : World} {v : Value} {l : List Int} (k u : Int) (hu0 : (Lit.int .u64 u).wf = true) (h : Rd (fun b => b < w.heap.size) w v l.length (intsV l)) : Calls Try.prog 8 [.int .i64 k, v, .int .u64 u].toArray w (Ret fun r w' => r = .bool true ∧ Mod none' w w') := by
  refine F_sound c8 (by simp [fc8]) ?_
  obtain ⟨hS, hL⟩ := h.sl
  obtain ⟨u, rfl, hu⟩ := wf_u64 hu0
  simp [fc8, s8]
  refine callm rknown_c (by simp) ?_
  intro w1 M1
  have H := Hp.ofMod M1
  simp
  refine ite_r (t := false) (by simp) (fun h => by cases h) (fun _ => ?_)
  simp [hS, hL]
  by_cases hbig : ((200 : Int) < (l.length : Int) ∨ k < 0) ∨ 25 < k
  · refine ifg_r (t := true) (by simp [hbig]) (fun h => by cases h) (fun _ => ?_)
    simp [hbig]
    refine ⟨fun _ _ _ => by omega, ?_⟩
    refine ite_r (t := true) (by simp; omega) (fun _ => ?_) (fun h => by cases h)
    simp
    exact M1
  refine ifg_r (t := false) (by simp; omega) (fun _ => ?_) (fun h => (h rfl).elim)
  refine callp (allWide2_c (h.at H.mod) (by unfold maxLen; omega)) (by simp) ?_
  simp [hbig]
  by_cases ha : allW l = true
  rotate_left
  · refine ite_r (t := true) (by simp [ha]) (fun _ => ?_) (fun h => by cases h)
    simp
    exact M1
  refine ite_r (t := false) (by simp [ha]; omega) (fun h => by cases h) (fun _ => ?_)
  simp
  obtain ⟨K, rfl⟩ : ∃ K : Nat, k = K := ⟨k.toNat, by omega⟩
  refine wrbox_h H (by simp) ?_
  intro b w2 H M2
  refine ⟨.inl rfl, ?_⟩
  simp
  obtain ⟨FW, hW, hFW, upW, rdW⟩ := H.wr 0 rfl
  refine call_h (rput_yes hW (h.at H.mod) hFW (by omega) (by simp) K (by omega) ha) (by simp (disch := omega) [wI, wU, tmod_nn, tdiv_nn, env0_0, env0_1, env0_2, env0_3, env0_4, env0_5, -env0_apply]) ?_
  rintro r wW ⟨rfl, AW⟩
  replace H := upW _ _ AW
  have hle := riceBs_le (show K ≤ 25 by omega) l
  have hlen := riceBs_len (show K ≤ 25 by omega) l ha
  have hg := getS_back (show K ≤ 25 by omega) l [] (toB (u % 65536) 16) ha (by omega)
  have hg2 := rGet_pack (riceBs K l) (toB (u % 65536) 16) [] (by rw [toB_length]; omega)
  rw [ofB_toB, toB_length] at hg2
  simp at hg hg2
  simp at H
  generalize riceBs K l = zz at *
  simp
  refine ifg_r (t := false) (by simp) (fun _ => ?_) (fun h => (h rfl).elim)
  obtain ⟨FW, hW, _⟩ := H.wr 0 rfl
  refine callp (len_c hW) (by simp) ?_
  simp
  refine ifg_r (t := false) (by simp) (fun _ => ?_) (fun h => (h rfl).elim)
  refine callp (sum_c K (h.at H.mod) (by omega)) (by simp) ?_
  simp [← hlen]
  refine ite_r (t := false) (by simp) (fun h => by cases h) (fun _ => ?_)
  have hand : bitw .and .u64 (u : Int) 65535 = ((u % 65536 : Nat) : Int) := and_u u 16 hu (by omega)
  have hlt : u % 65536 < 2 ^ 16 := Nat.mod_lt _ (by omega)
  simp
  obtain ⟨FW, hW, hFW, upW, rdW⟩ := H.wr 0 rfl
  refine call_h (put_yes hW (u % 65536) 16 (by omega) hlt (by omega)) (by simp (disch := omega) [wI, wU, tmod_nn, tdiv_nn, env0_0, env0_1, env0_2, env0_3, env0_4, env0_5, -env0_apply, hand, -Int.natCast_emod]) ?_
  rintro r wW ⟨rfl, AW⟩
  replace H := upW _ _ AW
  obtain ⟨FW, hW, _⟩ := H.wr 0 rfl
  refine call_h (bytes_c hW (by simp [toB_length]; omega)) (by simp) ?_
  intro vb w4 A
  replace H := H.newBytes A
  refine call_h (new_c (H.rd 1 rfl) (packB_fits _) (by rw [packB_length]; simp [toB_length]; omega)) (by simp) ?_
  rintro r w5 ⟨c, G, rfl, hR, M5, hG⟩
  replace H := H.newRr hR M5 hG
  generalize packB (zz ++ toB (u % 65536) 16) = pk at *
  simp
  refine ite_r (t := false) (by simp) (fun h => by cases h) (fun _ => ?_)
  simp [hS, hL]
  obtain ⟨F, hR, up⟩ := H.rrRow 2 rfl
  refine call_h (rget_c hR K l.length) (by simp [hS, hL]) ?_
  rw [hg]
  rintro r w6 ⟨⟨m, rfl, hu1, hu2⟩, A⟩
  replace H := up _ _ _ _ _ _ A hu1 hu2
  simp
  refine ifg_r (t := true) (by simp) (fun _ => ?_) (fun h => (h rfl).elim)
  refine callm (sameInts_c (l := l) (m := l) (h.at H.mod) (H.rd 3 rfl) (by unfold maxLen; omega)) (by simp (disch := omega) [wI, wU, tmod_nn, tdiv_nn, env0_0, env0_1, env0_2, env0_3, env0_4, env0_5, -env0_apply]) ?_
  intro w' M'
  replace H := H.same M'
  simp
  refine ifg_r (t := true) (by simp) (fun _ => ?_) (fun h => (h rfl).elim)
  obtain ⟨F, hR, _, up⟩ := H.rr 2 rfl
  refine callp (at_c hR) (by simp) ?_
  simp
  refine ifg_r (t := true) (by simp) (fun _ => ?_) (fun h => (h rfl).elim)
  refine callp (sum_c K (h.at H.mod) (by omega)) (by simp) ?_
  simp [← hlen]
  refine ifg_r (t := true) (by simp) (fun _ => ?_) (fun h => (h rfl).elim)
  refine call_h (get_c hR 16) (by simp) ?_
  rw [hg2]
  rintro r w7 ⟨rfl, A⟩
  replace H := up _ _ _ A
  simp [hand]
  exact H.mod

end Go.Proofs.Ytkhjmlfnmakkpaa.VG
