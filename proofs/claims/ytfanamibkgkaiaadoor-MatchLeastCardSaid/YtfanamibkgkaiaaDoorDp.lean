/-
  Match: the law of what is found.
-/
import Derived.Test.YtfanamibkgkaiaaDoorDo
namespace Go.Proofs.YtfanamibkgkaiaaDoor.VG
open Go
set_option linter.unusedSimpArgs false
set_option linter.unusedVariables false
set_option maxRecDepth 20000

theorem greedyL_len (l : List Int) : (greedyL l).length ≤ l.length := gT_len l l.length 0
theorem leastI_len (l : List Int) (lit cp : Int) : (leastI l lit cp).length ≤ l.length := by
  unfold leastI
  split
  · simp
  · exact lT_len l _ l.length 0

set_option maxHeartbeats 4000000 in
theorem finds_c {G : Nat → Prop} {w : World} {v : Value} {l : List Int} (hr : Rd G w v l.length (intsV l)) (hG : ∀ k, G k → k < w.heap.size) (hl : l.length ≤ 100000) (a lit cp : Int) :
    Calls Tryd.prog 15 [v, .int .i64 a, .int .i64 lit, .int .i64 cp].toArray w (Ret fun r w' => r = .bool true ∧ Mod none' w w') := by
  refine F_sound c15 (by simp [fc15]) ?_
  have H := Hp.nil w
  have g1 := greedyL_len l
  have g2 := leastI_len l lit cp
  simp [fc15, s15]
  refine callm (long_c (hr.at H.mod) (by omega) a) (by simp (disch := omega) [wI, wU, tmod_nn, tdiv_nn, env0_0, env0_1, env0_2, env0_3, env0_4, env0_5, -env0_apply]) ?_
  intro w' M'
  replace H := H.same M'
  simp [two]
  refine callm (long2_c (hr.at H.mod) (by omega) a) (by simp (disch := omega) [wI, wU, tmod_nn, tdiv_nn, env0_0, env0_1, env0_2, env0_3, env0_4, env0_5, -env0_apply]) ?_
  intro w' M'
  replace H := H.same M'
  simp [two]
  refine ifg_r (t := true) (by simp) (fun _ => ?_) (fun h => (h rfl).elim)
  refine call_h (greedy_c (hr.at H.mod) (by omega)) (by simp) ?_
  intro r1 w1 h1
  replace H := H.join h1
  simp
  refine ifg_r (t := true) (by simp) (fun _ => ?_) (fun h => (h rfl).elim)
  refine call_h (greedy2_c (hr.at H.mod) (by omega)) (by simp) ?_
  intro r2 w2 h2
  replace H := H.join h2
  simp
  refine ifg_r (t := true) (by simp) (fun _ => ?_) (fun h => (h rfl).elim)
  refine callm (tokens_c (H.rd 0 rfl) (H.rd 1 rfl) (by omega)) (by simp (disch := omega) [wI, wU, tmod_nn, tdiv_nn, env0_0, env0_1, env0_2, env0_3, env0_4, env0_5, -env0_apply]) ?_
  intro w' M'
  replace H := H.same M'
  simp
  refine ifg_r (t := true) (by simp) (fun _ => ?_) (fun h => (h rfl).elim)
  refine call_h (least_c (hr.at H.mod) (fun k hk => Nat.lt_of_lt_of_le (hG k hk) H.mod.size) hl lit cp) (by simp) ?_
  intro r3 w3 h3
  replace H := H.join h3
  simp
  refine ifg_r (t := true) (by simp) (fun _ => ?_) (fun h => (h rfl).elim)
  refine call_h (least2_c (hr.at H.mod) hl lit cp) (by simp) ?_
  intro r4 w4 h4
  replace H := H.join h4
  simp
  refine ifg_r (t := true) (by simp) (fun _ => ?_) (fun h => (h rfl).elim)
  refine callm (tokens_c (H.rd 2 rfl) (H.rd 3 rfl) (by omega)) (by simp (disch := omega) [wI, wU, tmod_nn, tdiv_nn, env0_0, env0_1, env0_2, env0_3, env0_4, env0_5, -env0_apply]) ?_
  intro w' M'
  replace H := H.same M'
  simp
  exact H.mod

set_option maxHeartbeats 4000000 in
theorem mfinds_law {w : World} (hP : Pts w) {tv rv : Value} {t raw : List Int} (a lit cp : Int) (ht : Rd (fun k => k < w.heap.size) w tv t.length (intsV t)) (hm : t.length ≤ maxLen) (hw : Rd (fun k => k < w.heap.size) w rv raw.length (intsV raw)) :
    Calls Tryd.prog 4 [tv, rv, .int .i64 a, .int .i64 lit, .int .i64 cp].toArray w (Ret fun r w' => r = .bool true ∧ Mod none' w w') := by
  refine F_sound c4 (by simp [fc4]) ?_
  obtain ⟨rS, rL⟩ := hw.sl
  simp [fc4, s4, rS, rL]
  by_cases hbig : 200 < raw.length
  · refine ite_r (t := true) (by simp; omega) (fun _ => ?_) (fun h => by cases h)
    simp [Mod.refl]
  refine ite_r (t := false) (by simp; omega) (fun h => by cases h) (fun _ => ?_)
  simp
  refine call_h (tnew_c t.length ht.cells1) (by simp) ?_
  rintro r w1 ⟨b, rfl, H⟩
  simp
  obtain ⟨hT, hlow, upR, up⟩ := H.tp 0 rfl
  have hg : ¬ (b < w.heap.size) := by omega
  refine call_h (mrow_c hT (ht.at H.mod) hg hm 200 (by omega)) (by simp) ?_
  rintro lv w2 ⟨l, hll, A, hs⟩
  replace H := upR _ _ A hs
  replace H : Hp w w2 [.own 3 1 lv l.length (intsV l)] := H.drop 0
  have hlR : Rd (fun k => k < w2.heap.size) w2 lv l.length (intsV l) := by
    obtain ⟨F, hPF, _, _⟩ := H.upd 0 rfl
    have := H.rd 0 rfl
    refine ⟨this.is, fun hp => ⟨(this.ptr hp).1, ?_⟩, this.cell⟩
    have hc := this.cell 0
    obtain ⟨x, hx⟩ : ∃ x, (intsV l)[0]? = some x := ⟨(intsV l)[0], List.getElem?_eq_getElem hp⟩
    have hcell := hc x hx
    unfold World.cell? at hcell
    rw [add_block] at hcell
    have : (slB lv).block < w2.heap.size := by
      rcases Nat.lt_or_ge (slB lv).block w2.heap.size with h | h
      · exact h
      · rw [Array.getElem?_eq_none h] at hcell
        simp at hcell
    exact this
  simp
  refine callm (finds_c hlR (fun k hk => hk) (by omega) (bitw .and .i64 a 255) (bitw .and .i64 lit 31) (bitw .and .i64 cp 63)) (by simp) ?_
  intro w3 M3
  replace H := H.same M3
  simp
  refine ifg_r (t := true) (by simp) (fun _ => ?_) (fun h => (h rfl).elim)
  refine callm (finds_c (hlR.at M3) (fun k hk => Nat.lt_of_lt_of_le hk M3.size) (by omega) a lit cp) (by simp) ?_
  intro w4 M4
  replace H := H.same M4
  simp
  refine ifg_r (t := true) (by simp) (fun _ => ?_) (fun h => (h rfl).elim)
  refine callm (finds_c (hw.at H.mod) (fun k hk => Nat.lt_of_lt_of_le hk H.mod.size) (by omega) a 9 12) (by simp) ?_
  intro w5 M5
  replace H := H.same M5
  simp
  refine ifg_r (t := true) (by simp) (fun _ => ?_) (fun h => (h rfl).elim)
  refine callm (finds_c (hw.at H.mod) (fun k hk => Nat.lt_of_lt_of_le hk H.mod.size) (by omega) (bitw .and .i64 a 63) 1 1) (by simp) ?_
  intro w6 M6
  replace H := H.same M6
  simp
  refine ifg_r (t := true) (by simp) (fun _ => ?_) (fun h => (h rfl).elim)
  refine callm (mknown_c (hP.at H.mod)) (by simp) ?_
  intro w7 M7
  simp
  exact H.mod.tr M7

end Go.Proofs.YtfanamibkgkaiaaDoor.VG
