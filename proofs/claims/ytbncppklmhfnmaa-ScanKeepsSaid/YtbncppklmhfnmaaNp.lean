/-
  Scan: the law of lists in an order.
-/
import Derived.Test.YtbncppklmhfnmaaNo
namespace Go.Proofs.Ytbncppklmhfnmaa.VG
open Go
set_option linter.unusedSimpArgs false
set_option linter.unusedVariables false
set_option maxRecDepth 20000

theorem Rd.cells1 {F : Nat → Prop} {w : World} {v : Value} {n : Nat} {xs : List Value} (h : Rd F w v n xs) : v.cells = #[v] := by obtain ⟨cap, hv⟩ := h.is; rw [hv]; rfl

set_option maxHeartbeats 4000000 in
theorem stakes_law {w : World} {lv ov tv : Value} {l o t : List Int} (hl : Rd (fun k => k < w.heap.size) w lv l.length (intsV l)) (ho : Rd (fun k => k < w.heap.size) w ov o.length (intsV o)) (ht : Rd (fun k => k < w.heap.size) w tv t.length (intsV t)) (hm : t.length ≤ maxLen) :
    Calls Try.prog 4 [lv, ov, tv].toArray w (Ret fun r w' => r = .bool true ∧ Mod none' w w') := by
  refine F_sound c4 (by simp [fc4]) ?_
  obtain ⟨lS, lL⟩ := hl.sl
  obtain ⟨oS, oL⟩ := ho.sl
  simp [fc4, s4, lS, lL, oS, oL]
  by_cases hb1 : 2000 < l.length
  · refine ite_r (t := true) (by simp; omega) (fun _ => ?_) (fun h => by cases h)
    simp [Mod.refl]
  by_cases hb2 : 2000 < o.length
  · refine ite_r (t := true) (by simp; omega) (fun _ => ?_) (fun h => by cases h)
    simp [Mod.refl]
  refine ite_r (t := false) (by simp; omega) (fun h => by cases h) (fun _ => ?_)
  simp
  refine call_h (tnew_c t.length ht.cells1) (by simp) ?_
  rintro r w1 ⟨b, rfl, H⟩
  simp [lS, lL]
  have hbk := (H.tp 0 rfl).2.1
  have hg : ¬ (b < w.heap.size) := by omega
  replace H : Hp w w1 [.tp b tv t.length, .own 3 1 (.slice none 0 0) 0 []] := H.nilS
  refine for_r l.length (fun i env' w' => env' 0 = lv ∧ env' 1 = ov ∧ env' 7 = .pointer (some ⟨b, 0, none⟩) ∧ env' 9 = .int .i64 i ∧ ∃ L : List Int, L.length = i ∧ Hp w w' [.tp b tv t.length, .own 3 1 (env' 8) i (intsV L)]) ?_ ?_ ?_
  · simp
    exact H
  · rintro i env w2 hi ⟨e0, e1, e7, e9, L, hL, H⟩
    have wi : IntKind.i64.wrap ((i : Int) + 1) = ((i + 1 : Nat) : Int) := by rw [wI (by omega) (by omega)]; omega
    simp [e0, e9, lS, lL]
    refine ite_r (t := true) (by simp; omega) (fun _ => ?_) (fun h => by cases h)
    simp [wp_blk, e7, e9, wi]
    obtain ⟨hT, hlow, upR, up⟩ := H.tp 0 rfl
    refine call_h (next_c hT (ht.at H.mod) hg hm ((i + 1 : Nat) : Int) (by omega)) (by simp [e7, e9, wi]) ?_
    rintro r w3 ⟨a, rfl, a0, a1, A⟩
    replace H := up _ A
    replace a1 := a1 (by omega)
    obtain ⟨n, rfl⟩ : ∃ n : Nat, a = n := ⟨a.toNat, by omega⟩
    have hni : n < i + 1 := by omega
    simp
    refine app1_h slTI 1 H rfl (u := .int .i64 (i : Int)) (by simp) (by omega) (by unfold maxLen; omega) (by simp [e9]) (by simp) (by simp) (by simp) ?_
    intro vb v' w5 w6 H
    refine ⟨.inl rfl, ?_⟩
    simp only [List.set_cons_succ, List.set_cons_zero] at H
    rw [intsV_snoc] at H
    obtain ⟨L', hL'⟩ : ∃ L', L' = L ++ [(i : Int)] := ⟨_, rfl⟩
    rw [← hL'] at H
    have hll : L'.length = i + 1 := by rw [hL']; simp [hL]
    replace H := H.drew
    obtain ⟨rS, rL⟩ := (H.rd 1 rfl).sl
    have rp := (H.rd 1 rfl).some (by omega)
    have cn := (H.rd 1 rfl).gi n (by omega)
    have ci := (H.rd 1 rfl).gi i (by omega)
    simp only [cell_drew] at cn ci
    simp [e9, rS, rL, rp, cn, ci, hni]
    refine ⟨by omega, by omega, ?_⟩
    refine set_h 1 H rfl (i := i) (u := .int .i64 (gi L' n)) (by omega) (by simp [e9, rS, rL, rp]) (by simp) (by simp) ?_
    intro w7 H
    refine ⟨.inl rfl, ?_⟩
    simp only [List.set_cons_succ, List.set_cons_zero] at H
    rw [intsV_put] at H
    simp [rS, rL, rp, hni]
    refine ⟨by omega, ?_⟩
    refine set_h 1 H rfl (i := n) (u := .int .i64 (gi L' i)) hni (by simp [rS, rL, rp, hni]) (by simp) (by simp) ?_
    intro w8 H
    refine ⟨.inl rfl, ?_⟩
    simp only [List.set_cons_succ, List.set_cons_zero] at H
    rw [intsV_put] at H
    simp [-Int.natCast_add, e0, e1, e7, e9, wi]
    exact ⟨by omega, _, by simp [hll], H⟩
  · rintro env w2 ⟨e0, e1, e7, e9, L, hL, H⟩
    simp [e0, e9, lS, lL]
    refine ite_r (t := false) (by simp) (fun h => by cases h) (fun _ => ?_)
    simp
    refine callm (takes_c (hl.at H.mod) (ho.at H.mod) (by omega) (by omega)) (by simp (disch := omega) [wI, wU, tmod_nn, tdiv_nn, env0_0, env0_1, env0_2, env0_3, env0_4, env0_5, -env0_apply, e0, e1]) ?_
    intro w' M'
    replace H := H.same M'
    simp
    refine ifg_r (t := true) (by simp) (fun _ => ?_) (fun h => (h rfl).elim)
    have hr := H.rd 1 rfl
    rw [← hL] at hr
    refine callm (takes_c (hl.at H.mod) hr (by omega) (by omega)) (by simp (disch := omega) [wI, wU, tmod_nn, tdiv_nn, env0_0, env0_1, env0_2, env0_3, env0_4, env0_5, -env0_apply, e0]) ?_
    intro w' M'
    replace H := H.same M'
    simp
    refine ifg_r (t := true) (by simp) (fun _ => ?_) (fun h => (h rfl).elim)
    refine callm (sknown_c) (by simp (disch := omega) [wI, wU, tmod_nn, tdiv_nn, env0_0, env0_1, env0_2, env0_3, env0_4, env0_5, -env0_apply]) ?_
    intro w' M'
    replace H := H.same M'
    simp
    exact H.mod

end Go.Proofs.Ytbncppklmhfnmaa.VG
