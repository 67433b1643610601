/-
  What is known of prefix codes.
-/
import Derived.Test.YtgjnfajdejkkjaaQf
import Derived.Test.YtgjnfajdejkkjaaQj
namespace Go.Proofs.Ytgjnfajdejkkjaa.VG
open Go
set_option linter.unusedSimpArgs false
set_option linter.unusedVariables false
set_option maxRecDepth 20000

theorem wP_all {P : List (Int × Int × Option (Nat × Nat))} (h0 : P ≠ []) (h : P.all (fun p => decide (0 ≤ p.1) && decide (p.1 ≤ 4611686018427387903)) = true) (i : Nat) : 0 ≤ wP P i ∧ wP P i ≤ 4611686018427387903 := by
  have hm : plG P i ∈ P := by
    unfold plG
    rcases e : P[i]? with _ | n
    · cases P with
      | nil => exact absurd rfl h0
      | cons a r => simp
    · simpa using List.mem_of_getElem? e
  have := List.all_eq_true.1 h _ hm
  simpa [wP] using this

set_option maxRecDepth 100000 in
theorem k_lens : lenP [5, 1, 0, 2] 4 = [1, 2, 0, 2] := by decide +kernel
theorem k_cnt : (cnP [5, 1, 0, 2] 4).length = 3 := by decide +kernel
theorem k_row (k : Nat) (hk : k < 4) : (rowP [5, 1, 0, 2] k).1 ≠ [] ∧ (rowP [5, 1, 0, 2] k).1.all (fun p => decide (0 ≤ p.1) && decide (p.1 ≤ 4611686018427387903)) = true ∧ (rowP [5, 1, 0, 2] k).2.length < 6 := by
  obtain rfl | rfl | rfl | rfl : k = 0 ∨ k = 1 ∨ k = 2 ∨ k = 3 := by omega
  all_goals decide +kernel
theorem k_end : 4 ≤ (rowP [5, 1, 0, 2] 3).2.length := by decide +kernel
theorem k_full : fullB [1, 2, 0, 2] = true := by decide +kernel
theorem k_words : cdW [1, 2, 0, 2] = [0, 2, 0, 3] := by decide +kernel
theorem k_full1 : fullB [0, 1] = true := by decide +kernel
theorem k_full2 : fullB [2, 2] = false := by decide +kernel
theorem k_bits : packB (symsB [1, 2, 0, 2] [0, 3, 1]) = [112] := by decide +kernel
theorem k_blen : (symsB [1, 2, 0, 2] [0, 3, 1]).length = 5 := by decide +kernel


set_option maxHeartbeats 4000000 in
theorem known_c {w : World} : Calls Try.prog 11 [].toArray w (Ret fun r w' => r = .bool true ∧ Mod none' w w') := by
  refine F_sound c11 (by simp [fc11]) ?_
  simp [fc11, s11]
  refine bs_h slTI [.int .i64 5, .int .i64 1, .int .i64 0, .int .i64 2] (Hp.nil w) rfl (by omega) (by simp) (by simp; exact ⟨rfl, rfl, rfl, rfl⟩) ?_
  intro vf w1 H M1
  refine ⟨.inl rfl, ?_⟩
  simp
  have rf : Rd (fun k => w.heap.size ≤ k) w1 vf ([5, 1, 0, 2] : List Int).length (intsV [5, 1, 0, 2]) := H.rd 0 rfl
  refine call_h (lengths_main 4 rf (by simp) (by simp) (by omega) (by omega) (by simp) (by show 2 ≤ (cnP [5, 1, 0, 2] 4).length; rw [k_cnt]; omega) (by show (cnP [5, 1, 0, 2] 4).length ≤ 1000; rw [k_cnt]; omega) (by show (cnP [5, 1, 0, 2] 4).length ≤ 2 ^ 4; rw [k_cnt]; omega)
    (fun k hk i => wP_all (k_row k hk).1 (k_row k hk).2.1 i) (fun k hk => by have := (k_row k hk).2.2; show _ < 2 * (cnP [5, 1, 0, 2] 4).length; rw [k_cnt]; omega) (by show 2 * (cnP [5, 1, 0, 2] 4).length - 2 ≤ _; rw [k_cnt]; exact k_end)) (by simp) ?_
  rintro r w2 ⟨vl, rfl, HL⟩
  rw [k_lens] at HL
  replace HL : Hp w1 w2 [.own 3 1 vl 4 (intsV [1, 2, 0, 2])] := HL
  replace H := (H.drop 0).join HL
  replace H : Hp w w2 [.own 3 1 vl 4 (intsV [1, 2, 0, 2])] := H
  simp
  refine call_h (codes_c (l := [1, 2, 0, 2]) (H.rd 0 rfl) (by simp)) (by simp) ?_
  rintro r w3 ⟨vc, rfl, HC⟩
  unfold codesP OwnW at HC
  rw [if_pos k_full, k_words] at HC
  have hE : erP [1, 2, 0, 2] = 0 := by unfold erP; rw [if_pos k_full]
  rw [hE]
  replace H : Hp w w3 [.own 3 1 vl 4 (intsV [1, 2, 0, 2]), .own 33 1 vc 4 (wdsV [0, 2, 0, 3])] := H.join HC
  simp
  refine wrbox_h H (by simp) ?_
  intro b w4 H M4
  refine ⟨.inl rfl, ?_⟩
  simp
  refine bs_h slTI [.int .i64 0, .int .i64 3, .int .i64 1] H rfl (by omega) (by simp) (by simp; exact ⟨rfl, rfl, rfl⟩) ?_
  intro vs w5 H M5
  refine ⟨.inl rfl, ?_⟩
  simp
  replace H : Hp w w5 ([.own 3 1 vl 4 (intsV [1, 2, 0, 2]), .own 33 1 vc 4 (wdsV [0, 2, 0, 3])] ++ .wr b [] :: [.own 3 1 vs 3 (intsV [0, 3, 1])]) := H
  replace H := H.perm List.perm_middle
  replace H : Hp w w5 (.wr b [] :: [.own 3 1 vl 4 (intsV [1, 2, 0, 2]), .own 33 1 vc 4 (wdsV [0, 2, 0, 3]), .own 3 1 vs 3 (intsV [0, 3, 1])]) := H
  refine call_h (put_h (lens := [1, 2, 0, 2]) (l := [0, 3, 1]) H (fun _ _ h => h.rd 1 rfl) (fun _ _ h => h.rd 3 rfl) (by simp) (by simp) k_full (by decide) (by rw [k_words]; decide)) (by simp) ?_
  rintro r w6 ⟨rfl, H⟩
  simp
  refine ifg_r (t := true) (by simp) (fun _ => ?_) (fun h => (h rfl).elim)
  refine bs_h slTI [.int .i64 1, .int .i64 2, .int .i64 0, .int .i64 2] H rfl (by omega) (by simp) (by simp; exact ⟨rfl, rfl, rfl, rfl⟩) ?_
  intro vt w7 H M7
  refine ⟨.inl rfl, ?_⟩
  simp
  replace H : Hp w w7 [.wr b (symsB [1, 2, 0, 2] [0, 3, 1]), .own 3 1 vl 4 (intsV [1, 2, 0, 2]), .own 33 1 vc 4 (wdsV [0, 2, 0, 3]), .own 3 1 vs 3 (intsV [0, 3, 1]), .own 3 1 vt 4 (intsV [1, 2, 0, 2])] := H
  refine ifg_r (t := true) (by simp) (fun _ => ?_) (fun h => (h rfl).elim)
  refine callm (sameInts_c (l := [1, 2, 0, 2]) (m := [1, 2, 0, 2]) (H.rd 1 rfl) (H.rd 4 rfl) (by unfold maxLen; simp)) (by simp) ?_
  intro w8 M8
  replace H := H.same M8
  obtain ⟨cS, cL⟩ := (H.rd 2 rfl).sl
  have c0 := rdW (H.rd 2 rfl) 0 (by simp)
  have c1 := rdW (H.rd 2 rfl) 1 (by simp)
  have c3 := rdW (H.rd 2 rfl) 3 (by simp)
  have pc := rdW_ptr (H.rd 2 rfl) (by simp)
  simp [gi] at c0 c1 c3
  simp [cS, cL, pc, c0, c1, c3]
  refine ifg_r (t := true) (by simp) (fun _ => ?_) (fun h => (h rfl).elim)
  obtain ⟨FW, hW, _⟩ := H.wr 0 rfl
  refine call_h (bytes_c hW (by rw [k_blen]; omega)) (by simp) ?_
  intro vb w9 A
  rw [k_bits] at A
  replace H := H.newBytes A
  simp
  refine ifg_r (t := true) (by simp) (fun _ => ?_) (fun h => (h rfl).elim)
  refine str_r (e := 5) (by kernel_rfl) (by kernel_rfl) (by kernel_rfl) ((H.rd 5 rfl).oct (by simp)) (by simp) ⟨by simp, ?_⟩
  simp [ByteArray.toList_eq, oct]
  refine ifg_r (t := true) (by simp) (fun _ => ?_) (fun h => (h rfl).elim)
  refine bs_h slTI [.int .i64 0, .int .i64 1] H rfl (by omega) (by simp) (by simp; exact ⟨rfl, rfl⟩) ?_
  intro vx w10 H M10
  refine ⟨.inl rfl, ?_⟩
  simp
  refine ifg_r (t := true) (by simp) (fun _ => ?_) (fun h => (h rfl).elim)
  have r6 : Rd (fun k => w.heap.size ≤ k) w10 vx ([0, 1] : List Int).length (intsV [0, 1]) := H.rd 6 rfl
  refine callp (full_c r6 (by simp)) (by simp) ?_
  rw [k_full1]
  simp
  refine ifg_r (t := true) (by simp) (fun _ => ?_) (fun h => (h rfl).elim)
  refine bs_h slTI [.int .i64 2, .int .i64 2] H rfl (by omega) (by simp) (by simp; rfl) ?_
  intro vy w11 H M11
  refine ⟨.inl rfl, ?_⟩
  simp
  refine ifg_r (t := true) (by simp) (fun _ => ?_) (fun h => (h rfl).elim)
  have r7 : Rd (fun k => w.heap.size ≤ k) w11 vy ([2, 2] : List Int).length (intsV [2, 2]) := H.rd 7 rfl
  refine callp (full_c r7 (by simp)) (by simp) ?_
  rw [k_full2]
  simp
  exact H.mod

end Go.Proofs.Ytgjnfajdejkkjaa.VG
