/-
  Scan: the law of orders.
-/
import Derived.Test.YtbncppklmhfnmaaNn
namespace Go.Proofs.Ytbncppklmhfnmaa.VG
open Go
set_option linter.unusedSimpArgs false
set_option linter.unusedVariables false
set_option maxRecDepth 20000

theorem ordL_len {W H M : Nat} (hW : W ≤ 64) (hH : H ≤ 64) (hM : M = 4096) (k : Int) : (ordL W H M k).length ≤ 1000000 := by
  have hm : W * H ≤ 64 * 64 := Nat.mul_le_mul hW hH
  have h3 := diagL_len W H (W + H - 1)
  have h3' : (W + H - 1) * W ≤ 127 * 64 := Nat.mul_le_mul (by omega) hW
  have h4 : (digL W H M).length ≤ M := pik_len _ _ M
  have h5 := passTo_len W (W * H) 7
  unfold ordL
  split
  · rw [mapTo_len]; omega
  split
  · rw [mapTo_len]; omega
  split
  · rw [mapTo_len]; omega
  split
  · omega
  split
  · omega
  split
  · omega
  · simp
theorem orderI_len (wd h : Int) {M : Nat} (hM : M = 4096) (k : Int) : (orderI wd h k M).length ≤ maxLen := by
  unfold maxLen
  unfold orderI
  split
  · rename_i hm
    obtain ⟨h1, h2⟩ := mayB_iff.1 hm
    have := ordL_len (W := wd.toNat) (H := h.toNat) (by omega) (by omega) hM k
    omega
  · simp
theorem passRI_len (wd h : Int) : (passRI wd h).length ≤ 1000000 := by
  unfold passRI
  split
  · rw [passR_len]; omega
  · simp
theorem passR_mem {W n : Nat} {l : List Int} : ∀ {k : Nat}, l ∈ passR W n k → ∃ i, i < k ∧ l = passL i W n
  | 0, h => by simp [passR] at h
  | k + 1, h => by
    rw [passR, List.mem_append] at h
    rcases h with h | h
    · obtain ⟨i, hi, e⟩ := passR_mem h
      exact ⟨i, by omega, e⟩
    · simp only [List.mem_singleton] at h
      exact ⟨k, by omega, h⟩
theorem passRI_all (wd h : Int) : ∀ l ∈ passRI wd h, l.length ≤ 1000000 := by
  intro l hl
  unfold passRI at hl
  split at hl
  · rename_i hm
    obtain ⟨h1, h2⟩ := mayB_iff.1 hm
    obtain ⟨i, hi, rfl⟩ := passR_mem hl
    have := passL_len i wd.toNat (wd.toNat * h.toNat)
    have hm : wd.toNat * h.toNat ≤ 64 * 64 := Nat.mul_le_mul (by omega) (by omega)
    omega
  · simp at hl

set_option maxHeartbeats 4000000 in
theorem stells_law {w : World} (wd h kd : Int) : Calls Try.prog 3 [.int .i64 wd, .int .i64 h, .int .i64 kd].toArray w (Ret fun r w' => r = .bool true ∧ Mod none' w w') := by
  refine F_sound c3 (by simp [fc3]) ?_
  obtain ⟨M, hM⟩ : ∃ M : Nat, M = 4096 := ⟨_, rfl⟩
  simp [fc3, s3]
  refine callp (within_c wd 1 64 (by omega) (by omega) (by omega)) (by simp) ?_
  refine callp (within_c h 1 64 (by omega) (by omega) (by omega)) (by simp) ?_
  generalize withI wd 1 64 = a
  generalize withI h 1 64 = b
  simp
  refine for_r 8 (fun i env' w' => env' 0 = .int .i64 wd ∧ env' 1 = .int .i64 h ∧ env' 2 = .int .i64 kd ∧ env' 7 = .int .i64 a ∧ env' 8 = .int .i64 b ∧ env' 9 = .int .i64 ((i : Int) - 1) ∧ Mod none' w w') ?_ ?_ ?_
  · simp [Mod.refl]
  · rintro i env w1 hi ⟨e0, e1, e2, e7, e8, e9, M1⟩
    have wi : IntKind.i64.wrap ((i : Int) - 1 + 1) = (i : Int) + 1 - 1 := by rw [wI (by omega) (by omega)]; omega
    simp [e9]
    refine ite_r (t := true) (by simp; omega) (fun _ => ?_) (fun h => by cases h)
    simp [wp_blk]
    refine call_h (order_c a b ((i : Int) - 1) M hM) (by simp [e7, e8, e9]) ?_
    intro r1 w2 h1
    refine call_h (scanOrder_c a b ((i : Int) - 1) M hM) (by simp [e7, e8, e9]) ?_
    intro r2 w3 h2
    have H : Hp w1 w3 _ := Hp.join h1 h2
    refine callm (ints_c (H.rd 0 rfl) (H.rd 1 rfl) (orderI_len a b hM _)) (by simp (disch := omega) [wI, wU, tmod_nn, tdiv_nn, env0_0, env0_1, env0_2, env0_3, env0_4, env0_5, -env0_apply]) ?_
    intro w' M'
    replace H := H.same M'
    simp
    refine ite_r (t := false) (by simp) (fun h => by cases h) (fun _ => ?_)
    simp [e0, e1, e2, e7, e8, e9, wi]
    exact ⟨wI (by omega) (by omega), M1.tr H.mod⟩
  · rintro env w1 ⟨e0, e1, e2, e7, e8, e9, M1⟩
    simp [e9]
    refine ite_r (t := false) (by simp) (fun h => by cases h) (fun _ => ?_)
    simp
    refine call_h (order_c wd h kd M hM) (by simp [e0, e1, e2]) ?_
    intro r1 w2 h1
    refine call_h (scanOrder_c wd h kd M hM) (by simp [e0, e1, e2]) ?_
    intro r2 w3 h2
    have H : Hp w1 w3 _ := Hp.join h1 h2
    refine callm (ints_c (H.rd 0 rfl) (H.rd 1 rfl) (orderI_len wd h hM kd)) (by simp (disch := omega) [wI, wU, tmod_nn, tdiv_nn, env0_0, env0_1, env0_2, env0_3, env0_4, env0_5, -env0_apply]) ?_
    intro w' M'
    replace H := H.same M'
    replace M1 := M1.tr H.mod
    clear H h1 h2
    simp
    refine ifg_r (t := true) (by simp) (fun _ => ?_) (fun h => (h rfl).elim)
    refine call_h (passes_c a b) (by simp [e7, e8]) ?_
    intro r3 w4 h1
    simp
    refine ifg_r (t := true) (by simp) (fun _ => ?_) (fun h => (h rfl).elim)
    refine call_h (scanPasses_c a b) (by simp [e7, e8]) ?_
    intro r4 w5 h2
    simp
    refine ifg_r (t := true) (by simp) (fun _ => ?_) (fun h => (h rfl).elim)
    refine callm (rowsEq_c (h1.rd.at h2.mod) h2.rd (passRI_len a b) (passRI_all a b)) (by simp) ?_
    intro w6 M6
    replace M1 := ((M1.tr h1.mod).tr h2.mod).tr M6
    clear h1 h2
    simp
    refine ifg_r (t := true) (by simp) (fun _ => ?_) (fun h => (h rfl).elim)
    refine call_h (passes_c wd h) (by simp [e0, e1]) ?_
    intro r5 w7 h1
    simp
    refine ifg_r (t := true) (by simp) (fun _ => ?_) (fun h => (h rfl).elim)
    refine call_h (scanPasses_c wd h) (by simp [e0, e1]) ?_
    intro r6 w8 h2
    simp
    refine ifg_r (t := true) (by simp) (fun _ => ?_) (fun h => (h rfl).elim)
    refine callm (rowsEq_c (h1.rd.at h2.mod) h2.rd (passRI_len wd h) (passRI_all wd h)) (by simp) ?_
    intro w9 M9
    replace M1 := ((M1.tr h1.mod).tr h2.mod).tr M9
    clear h1 h2
    simp
    refine ifg_r (t := true) (by simp) (fun _ => ?_) (fun h => (h rfl).elim)
    refine callm sknown_c (by simp) ?_
    intro w10 M10
    simp
    exact M1.tr M10

section
variable {F G : Nat → Prop} {w : World} {v u : Value} {l o : List Int}
theorem takeR_len (l o : List Int) : (takeR l o).1.length ≤ o.length := by
  unfold takeR
  split
  · simp [takeL, mapTo_len]
  · simp
theorem layR_len (l o : List Int) : (layR l o).1.length ≤ l.length := by
  unfold layR
  split
  · simp [layTo_len]
  · simp
set_option maxHeartbeats 2000000 in
theorem takes_c (hl : Rd F w v l.length (intsV l)) (ho : Rd G w u o.length (intsV o)) (h1 : l.length ≤ 1000000) (h2 : o.length ≤ 1000000) :
    Calls Try.prog 18 [v, u].toArray w (Ret fun r w' => r = .bool true ∧ Mod none' w w') := by
  refine F_sound c18 (by simp [fc18]) ?_
  simp [fc18, s18]
  refine call_h (take_c hl ho h1 h2) (by simp) ?_
  rintro r w1 ⟨a, rfl, A⟩
  simp
  refine call_h (scanTake_c (hl.at A.mod) (ho.at A.mod) h1 h2) (by simp) ?_
  rintro r w2 ⟨b, rfl, B⟩
  have H : Hp w w2 _ := Hp.join A B
  simp
  refine call_h (lay_c (hl.at H.mod) (ho.at H.mod) h1 h2) (by simp) ?_
  rintro r w3 ⟨c, rfl, C⟩
  replace H := H.join C
  simp
  refine call_h (scanLay_c (hl.at H.mod) (ho.at H.mod) h1 h2) (by simp) ?_
  rintro r w4 ⟨d, rfl, D⟩
  replace H := H.join D
  simp
  have t1 := takeR_len l o
  have t2 := layR_len l o
  refine callm (ints_c (H.rd 0 rfl) (H.rd 1 rfl) (by unfold maxLen; omega)) (by simp (disch := omega) [wI, wU, tmod_nn, tdiv_nn, env0_0, env0_1, env0_2, env0_3, env0_4, env0_5, -env0_apply]) ?_
  intro w' M'
  replace H := H.same M'
  simp
  refine ifg_r (t := true) (by simp) (fun _ => ?_) (fun h => (h rfl).elim)
  refine callm (ints_c (H.rd 2 rfl) (H.rd 3 rfl) (by unfold maxLen; omega)) (by simp (disch := omega) [wI, wU, tmod_nn, tdiv_nn, env0_0, env0_1, env0_2, env0_3, env0_4, env0_5, -env0_apply]) ?_
  intro w' M'
  replace H := H.same M'
  simp
  exact H.mod
end

end Go.Proofs.Ytbncppklmhfnmaa.VG
