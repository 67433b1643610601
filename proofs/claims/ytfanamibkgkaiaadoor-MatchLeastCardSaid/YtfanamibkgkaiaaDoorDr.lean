/-
  Match: the law of what expands to the row.
-/
import Derived.Test.YtfanamibkgkaiaaDoorDq
namespace Go.Proofs.YtfanamibkgkaiaaDoor.VG
open Go
set_option linter.unusedSimpArgs false
set_option linter.unusedVariables false
set_option maxRecDepth 20000

theorem Rd.low {F : Nat → Prop} {w : World} {v : Value} {n : Nat} {xs : List Value} (h : Rd F w v n xs) : Rd (fun k => k < w.heap.size) w v n xs := by
  refine ⟨h.is, fun hp => ⟨(h.ptr hp).1, ?_⟩, h.cell⟩
  have hc := h.cell 0
  obtain ⟨x, hx⟩ : ∃ x, xs[0]? = Option.some x := ⟨xs[0], List.getElem?_eq_getElem hp⟩
  have hcell := hc x hx
  unfold World.cell? at hcell
  rw [add_block] at hcell
  have : (slB v).block < w.heap.size := by
    rcases Nat.lt_or_ge (slB v).block w.heap.size with h | h
    · exact h
    · rw [Array.getElem?_eq_none h] at hcell
      simp at hcell
  exact this
theorem Tells.ge {l : List Int} : ∀ {T : List (Int × Int × Int)} {a b : Nat}, Tells l a b T → a + T.length ≤ b
  | [], a, b, h => by rw [Tells] at h; simp; omega
  | t :: r, a, b, h => by
    rw [Tells] at h
    rcases h with ⟨h1, h2, h3, h4⟩ | ⟨n, d, h1, h2, h3, h4, h5, h6, h7, h8⟩
    · have := h4.ge; simp; omega
    · have := h8.ge; simp; omega

set_option maxHeartbeats 8000000 in
theorem mback_law {w : World} (hP : Pts w) {tv : Value} {t : List Int} (lit cp cut : Int) (ht : Rd (fun k => k < w.heap.size) w tv t.length (intsV t)) (hm : t.length ≤ maxLen) :
    Calls Tryd.prog 5 [tv, .int .i64 lit, .int .i64 cp, .int .i64 cut].toArray w (Ret fun r w' => r = .bool true ∧ Mod none' w w') := by
  refine F_sound c5 (by simp [fc5]) ?_
  simp [fc5, s5]
  refine call_h (tnew_c t.length ht.cells1) (by simp) ?_
  rintro r w1 ⟨b, rfl, H⟩
  simp
  obtain ⟨hT, hlow, upR, up⟩ := H.tp 0 rfl
  have hg : ¬ (b < w.heap.size) := by omega
  refine call_h (mrow_c hT (ht.at H.mod) hg hm 250 (by omega)) (by simp) ?_
  rintro lv w2 ⟨l, hll, A, hs⟩
  replace H := upR _ _ A hs
  replace H : Hp w w2 [.own 3 1 lv l.length (intsV l)] := H.drop 0
  clear A hs up upR hT
  simp
  refine callp (within_c lit 1 100 (by omega) (by omega) (by omega)) (by simp) ?_
  simp
  refine callp (within_c cp 1 100 (by omega) (by omega) (by omega)) (by simp) ?_
  have bx := with_bd (n := lit) (lo := 1) (hi := 100) (by omega)
  have by' := with_bd (n := cp) (lo := 1) (hi := 100) (by omega)
  generalize withI lit 1 100 = x at *
  generalize withI cp 1 100 = y at *
  have hLb : leastBad x y = false := by simp [leastBad]; omega
  have hCb : costBad x y = false := by simp [costBad]; omega
  have hLI : ∀ m, leastI m x y = leastL m x y := fun m => by rw [leastI, if_neg (by simp [hLb])]
  have tg := greedy_tells l
  have tm := least_tells l x y
  have lg := tg.ge
  have lm := tm.ge
  rw [Nat.zero_add] at lg lm
  simp
  refine call_h (greedy_c (H.rd 0 rfl) (by omega)) (by simp) ?_
  intro gv w3 h1
  replace H := H.join h1
  replace H : Hp w w3 [.own 3 1 lv l.length (intsV l), .own 47 3 gv (greedyL l).length (toksV (greedyL l))] := H
  simp
  refine call_h (least_c (H.rd 0 rfl).low (fun k hk => hk) (by omega) x y) (by simp) ?_
  rw [hLI]
  intro mv w4 h2
  replace H := H.join h2
  replace H : Hp w w4 [.own 3 1 lv l.length (intsV l), .own 47 3 gv (greedyL l).length (toksV (greedyL l)), .own 47 3 mv (leastL l x y).length (toksV (leastL l x y))] := H
  clear h1 h2
  obtain ⟨lS, lL⟩ := (H.rd 0 rfl).sl
  simp [lS, lL]
  refine call_h (expand_c (H.rd 1 rfl) (by omega) (l.length : Int) (by omega)) (by simp [lS, lL]) ?_
  rw [tg.expR]
  rintro r w5 ⟨av, rfl, h3⟩
  replace H := H.join h3
  replace H : Hp w w5 [.own 3 1 lv l.length (intsV l), .own 47 3 gv (greedyL l).length (toksV (greedyL l)), .own 47 3 mv (leastL l x y).length (toksV (leastL l x y)), .own 3 1 av l.length (intsV l)] := H
  simp [lS, lL]
  refine call_h (expand_c (H.rd 2 rfl) (by omega) (l.length : Int) (by omega)) (by simp [lS, lL]) ?_
  rw [tm.expR]
  rintro r w6 ⟨bv, rfl, h4⟩
  replace H := H.join h4
  replace H : Hp w w6 [.own 3 1 lv l.length (intsV l), .own 47 3 gv (greedyL l).length (toksV (greedyL l)), .own 47 3 mv (leastL l x y).length (toksV (leastL l x y)), .own 3 1 av l.length (intsV l), .own 3 1 bv l.length (intsV l)] := H
  clear h3 h4
  simp [lS, lL]
  refine callp (within_c cut 0 (l.length : Int) (by omega) (by omega) (by omega)) (by simp [lS, lL]) ?_
  have bk := with_bd (n := cut) (lo := 0) (hi := (l.length : Int)) (by omega)
  obtain ⟨k, hk⟩ : ∃ k : Nat, withI cut 0 (l.length : Int) = k := ⟨(withI cut 0 (l.length : Int)).toNat, by omega⟩
  rw [hk] at bk ⊢
  have hkl : k ≤ l.length := by omega
  replace H := H.drew
  have rc := H.rc 0 rfl
  have rc1 := rc.cuti 0 k (Nat.zero_le _) hkl
  have rc2 := rc.cuti k l.length hkl (Nat.le_refl _)
  have hp := least_parts hkl x y
  have t1 := least_tells ((l.take k).drop 0) x y
  have t2 := least_tells ((l.take l.length).drop k) x y
  have l1 := t1.ge
  have l2 := t2.ge
  have n1 : ((l.take k).drop 0).length ≤ 100000 := by simp; omega
  have n2 : ((l.take l.length).drop k).length ≤ 100000 := by simp; omega
  generalize (l.take k).drop 0 = p1 at *
  generalize (l.take l.length).drop k = p2 at *
  have lC := rc.cap
  have hkC : k ≤ slC lv := by omega
  simp [lS, lL, hkC]
  refine ⟨hkl, ?_⟩
  refine call_h (least_c rc1.rd.low (fun k hk => hk) n1 x y) (by simp [lS, lL]) ?_
  rw [hLI]
  intro u1 w7 h5
  replace H := H.join h5
  replace H : Hp w w7 [.own 3 1 lv l.length (intsV l), .own 47 3 gv (greedyL l).length (toksV (greedyL l)), .own 47 3 mv (leastL l x y).length (toksV (leastL l x y)), .own 3 1 av l.length (intsV l), .own 3 1 bv l.length (intsV l), .own 47 3 u1 (leastL p1 x y).length (toksV (leastL p1 x y))] := H
  replace rc2 := rc2.at h5.mod
  simp
  refine callm (cost_c (H.rd 5 rfl) (by omega) x y) (by simp) ?_
  intro w8 M8
  rw [cost_tells t1 hCb]
  replace H := H.same M8
  replace rc2 := rc2.at M8
  simp
  refine call_h (least_c rc2.rd.low (fun k hk => hk) n2 x y) (by simp [lS, lL]) ?_
  rw [hLI]
  intro u2 w9 h6
  replace H := H.join h6
  replace H : Hp w w9 [.own 3 1 lv l.length (intsV l), .own 47 3 gv (greedyL l).length (toksV (greedyL l)), .own 47 3 mv (leastL l x y).length (toksV (leastL l x y)), .own 3 1 av l.length (intsV l), .own 3 1 bv l.length (intsV l), .own 47 3 u1 (leastL p1 x y).length (toksV (leastL p1 x y)), .own 47 3 u2 (leastL p2 x y).length (toksV (leastL p2 x y))] := H
  simp
  refine callm (cost_c (H.rd 6 rfl) (by omega) x y) (by simp) ?_
  intro w10 M10
  rw [cost_tells t2 hCb]
  replace H := H.same M10
  have s1 := sumT_bd (lit := x) (cp := y) (by omega) (by omega) (by omega) (by omega) (leastL p1 x y)
  have s2 := sumT_bd (lit := x) (cp := y) (by omega) (by omega) (by omega) (by omega) (leastL p2 x y)
  have hle1 := least_le (lit := x) (cp := y) tg
  have hle2 := least_lits l x y
  have hcm := cost_tells tm hCb
  have hcg := cost_tells tg hCb
  generalize sumT x y (leastL p1 x y) = q1 at *
  generalize sumT x y (leastL p2 x y) = q2 at *
  have wq : IntKind.i64.wrap (q1 + q2) = q1 + q2 := wI (by omega) (by omega)
  simp [wq]
  refine ifg_r (t := true) (by simp) (fun _ => ?_) (fun h => (h rfl).elim)
  refine callm (ints_c (H.rd 3 rfl) (H.rd 0 rfl) (by unfold maxLen; omega)) (by simp (disch := omega) [wI, wU, tmod_nn, tdiv_nn, env0_0, env0_1, env0_2, env0_3, env0_4, env0_5, -env0_apply]) ?_
  intro w' M'
  replace H := H.same M'
  simp
  refine ifg_r (t := true) (by simp) (fun _ => ?_) (fun h => (h rfl).elim)
  refine callm (ints_c (H.rd 4 rfl) (H.rd 0 rfl) (by unfold maxLen; omega)) (by simp (disch := omega) [wI, wU, tmod_nn, tdiv_nn, env0_0, env0_1, env0_2, env0_3, env0_4, env0_5, -env0_apply]) ?_
  intro w' M'
  replace H := H.same M'
  simp
  refine ifg_r (t := true) (by simp) (fun _ => ?_) (fun h => (h rfl).elim)
  refine callm (may_c (H.rd 2 rfl) (by omega)) (by simp (disch := omega) [wI, wU, tmod_nn, tdiv_nn, env0_0, env0_1, env0_2, env0_3, env0_4, env0_5, -env0_apply]) ?_
  intro w' M'
  replace H := H.same M'
  rw [tm.may]
  simp
  refine ifg_r (t := true) (by simp) (fun _ => ?_) (fun h => (h rfl).elim)
  refine callm (cost_c (H.rd 2 rfl) (by omega) x y) (by simp (disch := omega) [wI, wU, tmod_nn, tdiv_nn, env0_0, env0_1, env0_2, env0_3, env0_4, env0_5, -env0_apply]) ?_
  intro w' M'
  replace H := H.same M'
  rw [hcm]
  simp
  refine ifg_r (t := true) (by simp) (fun _ => ?_) (fun h => (h rfl).elim)
  refine callm (cost_c (H.rd 1 rfl) (by omega) x y) (by simp (disch := omega) [wI, wU, tmod_nn, tdiv_nn, env0_0, env0_1, env0_2, env0_3, env0_4, env0_5, -env0_apply]) ?_
  intro w' M'
  replace H := H.same M'
  rw [hcg]
  have d1 : decide (sumT x y (leastL l x y) ≤ sumT x y (greedyL l)) = true := by simpa using hle1
  simp [hle1, wq]
  refine ifg_r (t := true) (by simp) (fun _ => ?_) (fun h => (h rfl).elim)
  refine callm (cost_c (H.rd 2 rfl) (by omega) x y) (by simp (disch := omega) [wI, wU, tmod_nn, tdiv_nn, env0_0, env0_1, env0_2, env0_3, env0_4, env0_5, -env0_apply]) ?_
  intro w' M'
  replace H := H.same M'
  rw [hcm]
  simp [hp, hle1, wq]
  refine ifg_r (t := true) (by simp) (fun _ => ?_) (fun h => (h rfl).elim)
  refine callm (cost_c (H.rd 2 rfl) (by omega) x y) (by simp (disch := omega) [wI, wU, tmod_nn, tdiv_nn, env0_0, env0_1, env0_2, env0_3, env0_4, env0_5, -env0_apply]) ?_
  intro w' M'
  replace H := H.same M'
  rw [hcm]
  have hxl : x * (l.length : Int) ≤ 100 * 270 ∧ 0 ≤ x * (l.length : Int) := by
    have := mul_bd0 (a := x) (b := (l.length : Int)) (A := 100) (B := 270) (by omega) (by omega) (by omega) (by omega)
    omega
  have wx : IntKind.i64.wrap (x * (l.length : Int)) = x * l.length := wI (by omega) (by omega)
  simp [lS, lL, wx, hle2, hle1, hp, wq]
  refine ifg_r (t := true) (by simp) (fun _ => ?_) (fun h => (h rfl).elim)
  refine callm (mknown_c (hP.at H.mod)) (by simp (disch := omega) [wI, wU, tmod_nn, tdiv_nn, env0_0, env0_1, env0_2, env0_3, env0_4, env0_5, -env0_apply]) ?_
  intro w' M'
  replace H := H.same M'
  simp
  exact H.mod

end Go.Proofs.YtfanamibkgkaiaaDoor.VG
