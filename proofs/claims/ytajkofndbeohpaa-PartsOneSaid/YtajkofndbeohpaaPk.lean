/-
  Parts: plans compared; a known plan.
-/
import Derived.Test.YtajkofndbeohpaaPj
namespace Go.Proofs.Ytajkofndbeohpaa.VG
open Go
set_option linter.unusedSimpArgs false
set_option linter.unusedVariables false

theorem Rd.bound {F : Nat → Prop} {w : World} {v : Value} {n : Nat} {xs : List Value} (h : Rd F w v n xs) : Rd (fun k => F k ∧ k < w.heap.size) w v n xs := by
  refine ⟨h.is, fun hp => ?_, h.cell⟩
  obtain ⟨h1, h2⟩ := h.ptr hp
  have hc := h.cell 0 (xs[0]) (by simp [hp])
  have := World.block_lt_of_cell? w _ hc
  rw [add_block] at this
  exact ⟨h1, h2, this⟩
/-- A writer, and two rows beside it. -/
theorem Hp.wrRows {W w : World} {l : List It} (h : Hp W w l) (j : Nat) {b : Nat} {bs : List Bool} (hj : l[j]? = some (.wr b bs)) (i1 i2 : Nat) {e : TypeId} {n1 n2 : Nat} {v1 v2 : Value} {xs1 xs2 : List Value} (h1 : l[i1]? = some (.own e 1 v1 n1 xs1)) (h2 : l[i2]? = some (.own e 1 v2 n2 xs2)) (hn1 : i1 ≠ j) (hn2 : i2 ≠ j) :
    ∃ F G, Wr w F b bs ∧ Rd G w v1 n1 xs1 ∧ Rc G w v2 n2 xs2 ∧ (∀ k, F k → ¬ G k) ∧ (∀ k, G k → k < w.heap.size) ∧ ∀ cs w', WrAfter w F b cs w' → Hp W w' (l.set j (.wr b cs)) := by
  obtain ⟨F, hW, hF, up, rd⟩ := h.wr j hj
  obtain ⟨G1, r1, d1⟩ := rd i1 _ _ _ _ _ hn1 h1
  obtain ⟨G2, r2, d2⟩ := rd i2 _ _ _ _ _ hn2 h2
  have hc := h.rc i2 h2
  refine ⟨F, fun k => (G1 k ∨ G2 k) ∧ k < w.heap.size, hW, r1.bound.mono fun k hk => ⟨.inl hk.1, hk.2⟩, ⟨r2.bound.mono fun k hk => ⟨.inr hk.1, hk.2⟩, hc.cap, hc.len⟩, fun k hk hg => ?_, fun k hk => hk.2, up⟩
  rcases hg.1 with h | h
  · exact d1 k hk h
  · exact d2 k hk h

set_option maxHeartbeats 1000000 in
theorem sameParts_c {F G : Nat → Prop} {w : World} {u v : Value} {ks ms : List Int} (o o' : Int) (h : Rd F w u ks.length (intsV ks)) (g : Rd G w v ms.length (intsV ms)) (hl : ks.length ≤ maxLen) :
    Calls Try.prog 36 [planV o u, planV o' v].toArray w (Ret fun r w' => r = .bool (decide (o = o') && ks == ms) ∧ Mod none' w w') := by
  refine F_sound c36 (by simp [fc36]) ?_
  have hu : u.cells = #[u] := by obtain ⟨cap, hv⟩ := h.is; rw [hv]; rfl
  have hv : v.cells = #[v] := by obtain ⟨cap, hv⟩ := g.is; rw [hv]; rfl
  simp [fc36, s36]
  refine box_h (planV o u) (Hp.nil w) (by simp) ?_
  intro b w1 H M1
  refine ⟨.inl rfl, ?_⟩
  simp
  refine box_h (planV o' v) H (by simp) ?_
  intro c w2 H M2
  refine ⟨.inl rfl, ?_⟩
  rw [plan_cells _ _ hu, plan_cells _ _ hv] at H
  obtain ⟨_, _, b0, b1⟩ := blk2 (H.blk 0 rfl)
  obtain ⟨_, _, c0, c1⟩ := blk2 (H.blk 1 rfl)
  simp [b0, b1, c0, c1]
  by_cases ho : o = o'
  · refine ifg_r (t := true) (by simp [ho]) (fun _ => ?_) (fun h => (h rfl).elim)
    simp [ho, b1, c1]
    refine callm (sameInts_c (h.at H.mod) (g.at H.mod) hl) (by simp (disch := omega) [wI, wU, tmod_nn, tdiv_nn, env0_0, env0_1, env0_2, env0_3, env0_4, env0_5, -env0_apply, ho, b1, c1]) ?_
    intro w' M'
    replace H := H.same M'
    simp [ho]
    exact H.mod
  · refine ifg_r (t := false) (by simp [ho]) (fun h => by cases h) (fun _ => ?_)
    simp [ho]
    exact H.mod

theorem small_c {w : World} {G F : Nat → Prop} {kv v : Value} {ks l : List Int} (o : Int) (h : Rd G w kv ks.length (intsV ks)) (g : Rd F w v l.length (intsV l)) :
    Calls Try.prog 13 [planV o kv, v].toArray w (Ret fun r w' => r = .bool (decide (ks.length ≤ 300) && decide (l.length ≤ 400)) ∧ Mod none' w w') := by
  refine F_sound c13 (by simp [fc13]) ?_
  obtain ⟨hS, hL⟩ := h.sl
  obtain ⟨gS, gL⟩ := g.sl
  have hu : kv.cells = #[kv] := by obtain ⟨cap, hv⟩ := h.is; rw [hv]; rfl
  simp [fc13, s13]
  refine box_h (planV o kv) (Hp.nil w) (by simp) ?_
  intro b w1 H M1
  refine ⟨.inl rfl, ?_⟩
  rw [plan_cells _ _ hu] at H
  obtain ⟨_, _, b0, b1⟩ := blk2 (H.blk 0 rfl)
  simp [b0, b1, hS, hL, gS, gL]
  refine ⟨?_, H.mod⟩
  rw [Bool.eq_iff_iff]; simp; omega

end Go.Proofs.Ytajkofndbeohpaa.VG
