/-
  Parts: the best plan.
-/
import Derived.Test.YtajkofndbeohpaaPp
namespace Go.Proofs.Ytajkofndbeohpaa.VG
open Go
set_option linter.unusedSimpArgs false
set_option linter.unusedVariables false

def chK (l : List Int) : Int := if rawI l < sumI (bestN l) l then 31 else (bestN l : Int)
def bKs (s l : List Int) : Nat → List Int
  | 0 => []
  | i + 1 => bKs s l i ++ [chK (partI s l i)]
def bCost (n wm : Int) (l : List Int) (o : Int) : Int := costP o (bKs (szS o n wm) l (szS o n wm).length) n wm l
def bst (n wm : Int) (l : List Int) : Nat → (Int × List Int) × Int
  | 0 => ((0, []), 0)
  | j + 1 => if szB j n wm = true ∧ ((bst n wm l j).2 = 0 ∨ bCost n wm l j < (bst n wm l j).2) then (((j : Int), bKs (szS j n wm) l (szS j n wm).length), bCost n wm l j) else bst n wm l j
def ordN (most : Int) : Nat := (min (max most 0) 8 + 1).toNat
def bestP (n wm most : Int) (l : List Int) : (Int × List Int) × Int := if rightB n wm l = true then ((bst n wm l (ordN most)).1, 0) else ((0, []), 1)

theorem bKs_len (s l : List Int) : ∀ i, (bKs s l i).length = i
  | 0 => rfl
  | i + 1 => by simp [bKs, bKs_len s l i]
theorem bKs_gi (s l : List Int) : ∀ j i, i < j → gi (bKs s l j) i = chK (partI s l i)
  | 0, i, h => by omega
  | j + 1, i, h => by
    by_cases hi : i = j
    · subst hi
      have := bKs_len s l i
      rw [bKs, gi, List.getD_eq_getElem?_getD, List.getElem?_append_right (by omega), this, Nat.sub_self]; rfl
    · rw [bKs, gi_app_left _ _ _ (by rw [bKs_len]; omega), bKs_gi s l j i (by omega)]
theorem chK_ok (l : List Int) : okK (chK l) = true := by
  have := bestF_le l 25
  unfold chK okK paramB bestN
  split
  · simp
  · simp; omega
theorem bKs_ok (s l : List Int) : ∀ i, (bKs s l i).all okK = true
  | 0 => rfl
  | i + 1 => by rw [bKs, List.all_append, bKs_ok s l i]; simp [chK_ok]
theorem bKs_may {o n wm : Int} (l : List Int) (h : szB o n wm = true) : mayB o (bKs (szS o n wm) l (szS o n wm).length) n wm = true := may_iff.2 ⟨h, bKs_len _ _ _, bKs_ok _ _ _⟩
theorem bCost_pos {o n wm : Int} {l : List Int} (h : szB o n wm = true) (hr : rightB n wm l = true) (hl : l.length ≤ 1000000) : 0 < bCost n wm l o := by
  have := costTo_bd (bKs (szS o n wm) l (szS o n wm).length) (szS o n wm) l hl (szS o n wm).length
  rw [bCost, costP, if_pos ⟨bKs_may l h, hr⟩]
  omega

theorem choose_c {G : Nat → Prop} {w : World} {v : Value} {l : List Int} (h : Rd G w v l.length (intsV l)) (hl : l.length ≤ 1000000) : Calls Try.prog 63 [v].toArray w (Ret fun r w' => r = .int .i64 (chK l) ∧ w' = w) := by
  refine F_sound c63 (by simp [fc63]) ?_
  simp [fc63, s63]
  refine callp (best_c h hl) (by simp) ?_
  refine callp (raw_c h hl) (by simp) ?_
  refine callp (sum_c (bestN l : Int) h hl) (by simp) ?_
  simp
  unfold chK
  by_cases hc : rawI l < sumI (bestN l) l
  · refine ite_r (t := true) (by simp [hc]) (fun _ => ?_) (fun h => by cases h)
    simp [hc]
  · refine ite_r (t := false) (by simp; omega) (fun h => by cases h) (fun _ => ?_)
    simp [hc]
theorem bestK_c {G : Nat → Prop} {w : World} {v : Value} {l : List Int} (h : Rd G w v l.length (intsV l)) (hl : l.length ≤ 1000000) : Calls Try.prog 64 [v].toArray w (Ret fun r w' => r = .int .i64 (chK l) ∧ w' = w) := by
  refine F_sound c64 (by simp [fc64]) ?_
  simp [fc64, s64]
  refine callp (best2_c h hl) (by simp) ?_
  refine callp (pcost_c 31 h hl) (by simp) ?_
  refine callp (sum2_c (bestN l : Int) h hl) (by simp) ?_
  simp
  unfold chK
  rw [pcostI, if_pos rfl]
  by_cases hc : rawI l < sumI (bestN l) l
  · refine ite_r (t := true) (by simp [hc]) (fun _ => ?_) (fun h => by cases h)
    simp [hc]
  · refine ite_r (t := false) (by simp; omega) (fun h => by cases h) (fun _ => ?_)
    simp [hc]

/-- A plan and an error, made by a call. -/
def PlanNew (w w' : World) (r : Value) (s : (Int × List Int) × Int) : Prop := ∃ kv, r = .tuple #[planV s.1.1 kv, .int .i64 s.2] ∧ Hp w w' [.own 3 1 kv s.1.2.length (intsV s.1.2)]

set_option maxHeartbeats 4000000 in
theorem pbest_c {G : Nat → Prop} {w : World} {v : Value} {l : List Int} (n wm most : Int) (hv : Rc G w v l.length (intsV l)) (hvl : l.length ≤ 1000000) : Calls Try.prog 39 [.int .i64 n, .int .i64 wm, .int .i64 most, v].toArray w (Ret fun r w' => PlanNew w w' r (bestP n wm most l)) := by
  refine F_sound c39 (by simp [fc39]) ?_
  obtain ⟨vS, vL, vC⟩ := hv.sl
  simp [fc39, s39]
  obtain ⟨i2, hi2, hz2⟩ : ∃ i, Try.prog.info? 24 = some i ∧ i.zero = some (planV 0 (.slice none 0 0)) := ⟨_, rfl, rfl⟩
  have hpn : (planV 0 (.slice none 0 0)).cells = #[.int .i64 0, .slice none 0 0] := plan_cells 0 _ rfl
  refine alloc_h (Hp.nil w) hi2 hz2 ?_
  intro t0 w1 H M1
  rw [hpn] at H
  refine ⟨.inl rfl, ?_⟩
  simp
  refine callp (right_c n wm (hv.rd.at H.mod) hvl) (by simp) ?_
  unfold bestP
  cases hr : rightB n wm l
  · simp
    refine ite_r (t := true) (by simp) (fun _ => ?_) (fun h => by cases h)
    refine stAll_h 0 H rfl (v := planV 0 (.slice none 0 0)) (by simp) (by simp [planV]) rfl rfl (by rw [hpn]; simp) ?_
    intro w2 H
    rw [hpn] at H
    refine ⟨.inl rfl, ?_⟩
    obtain ⟨hc, hj, _, _⟩ := blk2 (H.blk 0 rfl)
    simp [hc]
    exact ⟨hj, _, rfl, (H.nilS).drop 0⟩
  simp
  refine ite_r (t := false) (by simp) (fun h => by cases h) (fun _ => ?_)
  simp
  refine alloc_h H hi2 hz2 ?_
  intro tb w2 H M2
  rw [hpn] at H
  refine ⟨.inl rfl, ?_⟩
  simp
  refine for_r (ordN most) (fun j env' w' => env' 0 = .int .i64 n ∧ env' 1 = .int .i64 wm ∧ env' 2 = .int .i64 most ∧ env' 3 = v ∧ env' 8 = .pointer (some ⟨t0, 0, none⟩) ∧ env' 10 = .pointer (some ⟨tb, 0, none⟩) ∧ env' 11 = .int .i64 (bst n wm l j).2 ∧ env' 12 = .int .i64 j ∧
    ∃ kv, Hp w w' [.blk t0 #[.int .i64 0, .slice none 0 0], .blk tb #[.int .i64 (bst n wm l j).1.1, kv], .own 3 1 kv (bst n wm l j).1.2.length (intsV (bst n wm l j).1.2)]) ?_ ?_ ?_
  · simp [bst]
    exact ⟨_, H.nilS⟩
  · rintro j env w' hj ⟨e0, e1, e2, e3, e8, e10, e11, e12, kv, H⟩
    have hjm : (j : Int) ≤ min (max most 0) 8 := by unfold ordN at hj; omega
    simp [e2, e12]
    refine ite_r (t := true) (by simp; omega) (fun _ => ?_) (fun h => by cases h)
    simp [wp_blk]
    refine call_h (sizes_c j n wm) (by simp [e0, e1, e12]) ?_
    intro sv w3 HR
    replace H := H.join HR
    obtain ⟨sS, sL⟩ := (H.rd 3 rfl).sl
    have hle := szS_le j n wm
    have hlz : (szS (j : Int) n wm).length = 0 ↔ szB (j : Int) n wm = false := by rw [← szS_nil]; exact List.length_eq_zero_iff
    have hfact := @sz_fact j n wm
    have hmay := bKs_may (o := j) (n := n) (wm := wm) l
    have hpos := bCost_pos (o := j) (n := n) (wm := wm) (l := l)
    have hbc : bCost n wm l j = costP j (bKs (szS j n wm) l (szS j n wm).length) n wm l := rfl
    have hst : bst n wm l (j + 1) = if szB j n wm = true ∧ ((bst n wm l j).2 = 0 ∨ bCost n wm l j < (bst n wm l j).2) then (((j : Int), bKs (szS j n wm) l (szS j n wm).length), bCost n wm l j) else bst n wm l j := rfl
    have hw1 : IntKind.i64.wrap ((j : Int) + 1) = ((j + 1 : Nat) : Int) := by rw [wI (by omega) (by omega)]; omega
    generalize szS (j : Int) n wm = s at *
    simp [sS, sL]
    cases hB : szB (j : Int) n wm
    · have h0 := hlz.2 hB
      rw [if_neg (by rw [hB]; simp)] at hst
      refine ite_r (t := true) (by simp; rw [← List.length_eq_zero_iff]; omega) (fun _ => ?_) (fun h => by cases h)
      simp [-Int.natCast_add, e0, e1, e2, e3, e8, e10, e11, e12, hw1, hst]
      exact ⟨by omega, kv, H.drop 3⟩
    obtain ⟨hge, hat, hsp⟩ := hfact hB
    have hln := (right_iff.1 hr).2.1
    refine ite_r (t := false) (by simp; rw [← List.length_eq_zero_iff]; omega) (fun h => by cases h) (fun _ => ?_)
    simp [e12]
    refine ⟨rfl, ?_⟩
    refine alloc_h H hi2 hz2 ?_
    intro t2 w4 H M4
    rw [hpn] at H
    refine ⟨.inl rfl, ?_⟩
    refine stAll_h 4 H rfl (v := planV j (.slice none 0 0)) (by simp) (by simp [planV, putAt, Value.cells, e12]) rfl rfl (by rw [plan_cells _ _ rfl]; simp) ?_
    intro w5 H
    rw [plan_cells _ _ rfl] at H
    refine ⟨.inl rfl, ?_⟩
    simp [sS, sL]
    refine for_r s.length (fun i env' w' => env' 0 = .int .i64 n ∧ env' 1 = .int .i64 wm ∧ env' 2 = .int .i64 most ∧ env' 3 = v ∧ env' 8 = .pointer (some ⟨t0, 0, none⟩) ∧ env' 10 = .pointer (some ⟨tb, 0, none⟩) ∧ env' 11 = .int .i64 (bst n wm l j).2 ∧ env' 12 = .int .i64 j ∧
      env' 14 = .pointer (some ⟨t2, 0, none⟩) ∧ env' 42 = sv ∧ env' 43 = .int .i64 s.length ∧ env' 44 = .int .i64 i ∧ Rc G w (env' 15) (l.drop (atI s i)).length (intsV (l.drop (atI s i))) ∧
      ∃ kv2, Hp w w' [.blk t0 #[.int .i64 0, .slice none 0 0], .blk tb #[.int .i64 (bst n wm l j).1.1, kv], .own 3 1 kv (bst n wm l j).1.2.length (intsV (bst n wm l j).1.2), .own 3 1 sv s.length (intsV s), .blk t2 #[.int .i64 j, kv2], .own 3 1 kv2 i (intsV (bKs s l i))]) ?_ ?_ ?_
    · simp [e0, e1, e2, e3, e8, e10, e11, e12, sL, atI, bKs]
      exact ⟨hv, _, H.nilS⟩
    · rintro i env w' hi ⟨f0, f1, f2, f3, f8, f10, f11, f12, f14, f42, f43, f44, hr15, kv2, H⟩
      simp [f43, f44]
      refine ite_r (t := true) (by simp; omega) (fun _ => ?_) (fun h => by cases h)
      simp [wp_blk]
      replace H := H.drew
      have srd := H.rd 3 rfl
      have hg := srd.gi i hi
      have hp := srd.some (by omega)
      rw [cell_drew] at hg
      have hmo := atI_mono s (i + 1) s.length hi
      obtain ⟨r1, r2⟩ := pcost_k hv (s := s) (i := i) (by omega) hr15
      obtain ⟨rS, rL, rC⟩ := hr15.sl
      obtain ⟨hg0, hg4⟩ := hge i hi
      have hrl : gi s i ≤ (slL (env 15) : Int) := by
        rw [rL, List.length_drop]
        simp only [atI] at hmo
        omega
      have hrc : gi s i ≤ (slC (env 15) : Int) := by omega
      rw [← rL] at r2
      obtain ⟨rv, hrv⟩ : ∃ rv, env 15 = rv := ⟨_, rfl⟩
      rw [hrv] at hr15 r1 r2 rS rL rC hrl hrc
      have hplen : (partI s l i).length ≤ 1000000 := by unfold partI; simp; omega
      obtain ⟨_, _, _, hb1⟩ := blk2 (H.blk 4 rfl)
      have hb1' := hb1
      rw [cell_drew] at hb1'
      simp [hrv, f14, f42, f44, sS, sL, hi, hg, hp, rS, hg0, hrl, hrc, hb1']
      refine ⟨by omega, ?_⟩
      refine call_r _ (choose_c (r1.rd.at H.mod) hplen) (by simp [hrv]) ?_
      rintro r _ ⟨rfl, rfl⟩
      refine ⟨by simp [promOk, SameCells, f14, hb1'], ?_⟩
      simp
      refine app1_h slTI 5 H rfl (u := .int .i64 (chK (partI s l i))) (by simp) (by omega) (by unfold maxLen; omega) (by simp) (by simp) (by simp) ?_ ?_
      · intro w6 m
        have hb2 := m.cell hb1 (fun h => h)
        simp [promOk, f14]
        exact same_one hb1 hb2
      intro vb kv3 w6 w7 H
      refine ⟨.inl rfl, ?_⟩
      simp [f14]
      refine st_h 4 H rfl (o := 1) (v := kv3) (by simp [f14]) (by simp) (by simp) (own_one (H.own 5 rfl)) ?_
      intro w8 H
      refine ⟨.inl rfl, ?_⟩
      have hw2 : IntKind.i64.wrap ((i : Int) + 1) = ((i + 1 : Nat) : Int) := by rw [wI (by omega) (by omega)]; omega
      simp [-Int.natCast_add, hw2, f0, f1, f2, f3, f8, f10, f11, f12, f14, f42, f43, f44, hrv, rS, hg0, hrl, hrc]
      rw [intsV_snoc] at H
      exact ⟨by omega, by rw [← List.length_drop]; exact r2, kv3, H⟩
    · rintro env w' ⟨f0, f1, f2, f3, f8, f10, f11, f12, f14, f42, f43, f44, hr15, kv2, H⟩
      simp [f43, f44]
      refine ite_r (t := false) (by simp) (fun h => by cases h) (fun _ => ?_)
      obtain ⟨hc, hj4, _, _⟩ := blk2 (H.blk 4 rfl)
      simp [f14, hc]
      refine ⟨hj4, ?_⟩
      have hkr : Rd (fun _ => True) w' kv2 (bKs s l s.length).length (intsV (bKs s l s.length)) := by rw [bKs_len]; exact (H.rd 5 rfl).mono fun _ _ => trivial
      have hv2 := hv.at H.mod
      have hv3 : Rc (fun _ => True) w' v l.length (intsV l) := ⟨hv2.rd.mono fun _ _ => trivial, hv2.cap, hv2.len⟩
      refine callm (cost_p j n wm hkr (by rw [bKs_len]; omega) hv3 hvl) (by simp (disch := omega) [wI, wU, tmod_nn, tdiv_nn, env0_0, env0_1, env0_2, env0_3, env0_4, env0_5, -env0_apply, planV, f0, f1, f3]) ?_
      intro w' M'
      replace H := H.same M'
      rw [← hbc]
      simp [f11]
      by_cases hcc : (bst n wm l j).2 = 0 ∨ bCost n wm l j < (bst n wm l j).2
      · rw [if_pos ⟨hB, hcc⟩] at hst
        refine ite_r (t := true) (by simp; exact hcc) (fun _ => ?_) (fun h => by cases h)
        obtain ⟨hc, hj4, _, _⟩ := blk2 (H.blk 4 rfl)
        simp [f14, hc]
        refine ⟨hj4, ?_⟩
        have hkc : kv2.cells = #[kv2] := by obtain ⟨cap, hv⟩ := (H.rd 5 rfl).is; rw [hv]; rfl
        refine stAll_h 1 H rfl (v := planV j kv2) (by simp [f10]) (by simp [planV]) (by rw [plan_cells _ _ hkc]; rfl) rfl (by rw [plan_cells _ _ hkc]; simp; exact own_one (H.own 5 rfl)) ?_
        intro w6 H
        rw [plan_cells _ _ hkc] at H
        refine ⟨.inl rfl, ?_⟩
        simp [-Int.natCast_add, f0, f1, f2, f3, f8, f10, f12, hw1, hst, bKs_len]
        exact ⟨by omega, kv2, ((H.drop 4).drop 3).drop 2⟩
      · rw [if_neg (fun h => hcc h.2)] at hst
        refine ite_r (t := false) (by simp; omega) (fun h => by cases h) (fun _ => ?_)
        simp [-Int.natCast_add, f0, f1, f2, f3, f8, f10, f11, f12, hw1, hst]
        exact ⟨by omega, kv, ((H.drop 5).drop 4).drop 3⟩
  · rintro env w' ⟨e0, e1, e2, e3, e8, e10, e11, e12, kv, H⟩
    simp [e2, e12]
    have : ¬ ((ordN most : Nat) : Int) ≤ min (max most 0) 8 := by unfold ordN; omega
    refine ite_r (t := false) (by simp; omega) (fun h => by cases h) (fun _ => ?_)
    have hkc : kv.cells = #[kv] := by obtain ⟨cap, hv⟩ := (H.rd 2 rfl).is; rw [hv]; rfl
    obtain ⟨hc, hj, _, _⟩ := blk2 (H.blk 1 rfl)
    simp [e10, hc]
    refine ⟨hj, ?_⟩
    refine stAll_h 0 H rfl (v := planV (bst n wm l (ordN most)).1.1 kv) (by simp [e8]) (by simp [planV]) (by rw [plan_cells _ _ hkc]; rfl) rfl (by rw [plan_cells _ _ hkc]; simp; exact own_one (H.own 2 rfl)) ?_
    intro w3 H
    rw [plan_cells _ _ hkc] at H
    refine ⟨.inl rfl, ?_⟩
    obtain ⟨hc, hj, _, _⟩ := blk2 (H.blk 0 rfl)
    simp [e8, hc]
    exact ⟨hj, _, rfl, (H.drop 0).drop 0⟩

set_option maxHeartbeats 4000000 in
theorem pbest2_c {G : Nat → Prop} {w : World} {v : Value} {l : List Int} (n wm most : Int) (hv : Rc G w v l.length (intsV l)) (hvl : l.length ≤ 1000000) : Calls Try.prog 40 [.int .i64 n, .int .i64 wm, .int .i64 most, v].toArray w (Ret fun r w' => PlanNew w w' r (bestP n wm most l)) := by
  refine F_sound c40 (by simp [fc40]) ?_
  obtain ⟨vS, vL, vC⟩ := hv.sl
  simp [fc40, s40]
  obtain ⟨i2, hi2, hz2⟩ : ∃ i, Try.prog.info? 24 = some i ∧ i.zero = some (planV 0 (.slice none 0 0)) := ⟨_, rfl, rfl⟩
  have hpn : (planV 0 (.slice none 0 0)).cells = #[.int .i64 0, .slice none 0 0] := plan_cells 0 _ rfl
  refine alloc_h (Hp.nil w) hi2 hz2 ?_
  intro t0 w1 H M1
  rw [hpn] at H
  refine ⟨.inl rfl, ?_⟩
  simp
  refine callp (prow2_c n wm) (by simp) ?_
  unfold bestP
  cases hrow : rowB n wm
  · have hr : rightB n wm l = false := by simp [rightB, hrow]
    simp [hr]
    refine ifg_r (t := true) (by simp) (fun h => by cases h) (fun _ => ?_)
    simp
    refine ite_r (t := true) (by simp) (fun _ => ?_) (fun h => by cases h)
    refine stAll_h 0 H rfl (v := planV 0 (.slice none 0 0)) (by simp) (by simp [planV]) rfl rfl (by rw [hpn]; simp) ?_
    intro w2 H
    rw [hpn] at H
    refine ⟨.inl rfl, ?_⟩
    obtain ⟨hc, hj, _, _⟩ := blk2 (H.blk 0 rfl)
    simp [hc]
    exact ⟨hj, _, rfl, (H.nilS).drop 0⟩
  have hr' := rowB_iff.1 hrow
  have hwn : IntKind.i64.wrap (n - wm) = n - wm := wI (by omega) (by omega)
  simp [vS, vL, hwn]
  by_cases hln : (l.length : Int) = n - wm
  rotate_left
  · have hr : rightB n wm l = false := by simp [rightB, hln]
    refine ifg_r (t := true) (by simp [hln]) (fun h => by cases h) (fun _ => ?_)
    simp [hln, hr]
    refine ite_r (t := true) (by simp [hln]) (fun _ => ?_) (fun h => by cases h)
    refine stAll_h 0 H rfl (v := planV 0 (.slice none 0 0)) (by simp) (by simp [planV]) rfl rfl (by rw [hpn]; simp) ?_
    intro w2 H
    rw [hpn] at H
    refine ⟨.inl rfl, ?_⟩
    obtain ⟨hc, hj, _, _⟩ := blk2 (H.blk 0 rfl)
    simp [hc]
    exact ⟨hj, _, rfl, (H.nilS).drop 0⟩
  refine ifg_r (t := false) (by simp [hln]) (fun _ => ?_) (fun h => (h rfl).elim)
  refine callp (allWide2_c (hv.rd.at H.mod) (by unfold maxLen; omega)) (by simp) ?_
  have hre : rightB n wm l = allW l := by simp [rightB, hrow, hln]
  rw [hre]
  cases ha : allW l
  · simp
    refine ite_r (t := true) (by simp) (fun _ => ?_) (fun h => by cases h)
    refine stAll_h 0 H rfl (v := planV 0 (.slice none 0 0)) (by simp) (by simp [planV]) rfl rfl (by rw [hpn]; simp) ?_
    intro w2 H
    rw [hpn] at H
    refine ⟨.inl rfl, ?_⟩
    obtain ⟨hc, hj, _, _⟩ := blk2 (H.blk 0 rfl)
    simp [hc]
    exact ⟨hj, _, rfl, (H.nilS).drop 0⟩
  have hr : rightB n wm l = true := by rw [hre, ha]
  simp [hln]
  refine ite_r (t := false) (by simp) (fun h => by cases h) (fun _ => ?_)
  simp
  refine alloc_h H hi2 hz2 ?_
  intro tb w2 H M2
  rw [hpn] at H
  refine ⟨.inl rfl, ?_⟩
  simp
  refine for_r (ordN most) (fun j env' w' => env' 0 = .int .i64 n ∧ env' 1 = .int .i64 wm ∧ env' 2 = .int .i64 most ∧ env' 3 = v ∧ env' 8 = .pointer (some ⟨t0, 0, none⟩) ∧ env' 10 = .pointer (some ⟨tb, 0, none⟩) ∧ env' 11 = .int .i64 (bst n wm l j).2 ∧ env' 12 = .int .i64 j ∧
    ∃ kv, Hp w w' [.blk t0 #[.int .i64 0, .slice none 0 0], .blk tb #[.int .i64 (bst n wm l j).1.1, kv], .own 3 1 kv (bst n wm l j).1.2.length (intsV (bst n wm l j).1.2)]) ?_ ?_ ?_
  · simp [bst]
    exact ⟨_, H.nilS⟩
  · rintro j env w' hj ⟨e0, e1, e2, e3, e8, e10, e11, e12, kv, H⟩
    have hjm : (j : Int) ≤ min (max most 0) 8 := by unfold ordN at hj; omega
    simp [e2, e12]
    refine ite_r (t := true) (by simp; omega) (fun _ => ?_) (fun h => by cases h)
    simp [wp_blk]
    refine call_h (sizes2_c j n wm) (by simp [e0, e1, e12]) ?_
    intro sv w3 HR
    replace H := H.join HR
    obtain ⟨sS, sL⟩ := (H.rd 3 rfl).sl
    have hle := szS_le j n wm
    have hlz : (szS (j : Int) n wm).length = 0 ↔ szB (j : Int) n wm = false := by rw [← szS_nil]; exact List.length_eq_zero_iff
    have hfact := @sz_fact j n wm
    have hpos := bCost_pos (o := j) (n := n) (wm := wm) (l := l)
    have hneg : szB (j : Int) n wm = false → bCost n wm l j = 0 := fun h => by rw [bCost, costP, if_neg]; rintro ⟨h1, _⟩; rw [(may_iff.1 h1).1] at h; cases h
    have hbc : bCost n wm l j = costP j (bKs (szS j n wm) l (szS j n wm).length) n wm l := rfl
    have hst : bst n wm l (j + 1) = if szB j n wm = true ∧ ((bst n wm l j).2 = 0 ∨ bCost n wm l j < (bst n wm l j).2) then (((j : Int), bKs (szS j n wm) l (szS j n wm).length), bCost n wm l j) else bst n wm l j := rfl
    have hw1 : IntKind.i64.wrap ((j : Int) + 1) = ((j + 1 : Nat) : Int) := by rw [wI (by omega) (by omega)]; omega
    generalize szS (j : Int) n wm = s at *
    have hge : ∀ i, i < s.length → 0 ≤ gi s i ∧ gi s i ≤ 4096 := by
      cases hB : szB (j : Int) n wm
      · intro i hi; have := hlz.2 hB; omega
      · exact (hfact hB).1
    have hat : (atI s s.length : Int) ≤ l.length := by
      cases hB : szB (j : Int) n wm
      · rw [hlz.2 hB]; simp [atI]
      · have := (hfact hB).2.1; omega
    simp [e12]
    refine ⟨rfl, ?_⟩
    refine alloc_h H hi2 hz2 ?_
    intro t2 w4 H M4
    rw [hpn] at H
    refine ⟨.inl rfl, ?_⟩
    refine stAll_h 4 H rfl (v := planV j (.slice none 0 0)) (by simp) (by simp [planV, putAt, Value.cells, e12]) rfl rfl (by rw [plan_cells _ _ rfl]; simp) ?_
    intro w5 H
    rw [plan_cells _ _ rfl] at H
    refine ⟨.inl rfl, ?_⟩
    simp
    refine for_r s.length (fun i env' w' => env' 0 = .int .i64 n ∧ env' 1 = .int .i64 wm ∧ env' 2 = .int .i64 most ∧ env' 3 = v ∧ env' 8 = .pointer (some ⟨t0, 0, none⟩) ∧ env' 10 = .pointer (some ⟨tb, 0, none⟩) ∧ env' 11 = .int .i64 (bst n wm l j).2 ∧ env' 12 = .int .i64 j ∧
      env' 13 = sv ∧ env' 14 = .int .i64 (atI s i) ∧ env' 15 = .pointer (some ⟨t2, 0, none⟩) ∧ env' 16 = .int .i64 i ∧
      ∃ kv2, Hp w w' [.blk t0 #[.int .i64 0, .slice none 0 0], .blk tb #[.int .i64 (bst n wm l j).1.1, kv], .own 3 1 kv (bst n wm l j).1.2.length (intsV (bst n wm l j).1.2), .own 3 1 sv s.length (intsV s), .blk t2 #[.int .i64 j, kv2], .own 3 1 kv2 i (intsV (bKs s l i))]) ?_ ?_ ?_
    · simp [e0, e1, e2, e3, e8, e10, e11, e12, atI, bKs]
      exact ⟨_, H.nilS⟩
    · rintro i env w' hi ⟨f0, f1, f2, f3, f8, f10, f11, f12, f13, f14, f15, f16, kv2, H⟩
      simp [f13, f16, sS, sL]
      refine ite_r (t := true) (by simp; omega) (fun _ => ?_) (fun h => by cases h)
      simp [wp_blk]
      replace H := H.drew
      have srd := H.rd 3 rfl
      have hg := srd.gi i hi
      have hp := srd.some (by omega)
      rw [cell_drew] at hg
      have hmo := atI_mono s (i + 1) s.length hi
      obtain ⟨hg0, hg4⟩ := hge i hi
      have ha1 : (atI s (i + 1) : Int) = atI s i + gi s i := by simp only [atI]; omega
      have r1 := (hv.at H.mod).cuti (atI s i) (atI s (i + 1)) (by omega) (by omega)
      have hpi : (l.take (atI s (i + 1))).drop (atI s i) = partI s l i := by
        rw [List.drop_take, partI]
        simp only [atI]
        rw [Nat.add_sub_cancel_left]
      rw [hpi] at r1
      have hplen : (partI s l i).length ≤ 1000000 := by unfold partI; simp; omega
      have hwa : IntKind.i64.wrap ((atI s i : Int) + gi s i) = (atI s (i + 1) : Int) := by rw [wI (by omega) (by omega)]; omega
      have hw2 : IntKind.i64.wrap ((i : Int) + 1) = ((i + 1 : Nat) : Int) := by rw [wI (by omega) (by omega)]; omega
      have hc1 : (atI s (i + 1) : Int) ≤ (slC v : Int) := by omega
      have hc2 : (atI s i : Int) ≤ (atI s (i + 1) : Int) := by omega
      obtain ⟨_, _, _, hb1⟩ := blk2 (H.blk 4 rfl)
      have hb1' := hb1
      rw [cell_drew] at hb1'
      simp [f3, f13, f14, f15, f16, sS, sL, hi, hg, hp, hb1', vS, vL, hwa]
      refine ⟨⟨by omega, by omega⟩, ?_⟩
      refine call_r _ (bestK_c r1.rd hplen) (by simp [f3, f14, hwa]) ?_
      rintro r _ ⟨rfl, rfl⟩
      refine ⟨by simp [promOk, SameCells, f15, hb1'], ?_⟩
      simp
      refine app1_h slTI 5 H rfl (u := .int .i64 (chK (partI s l i))) (by simp) (by omega) (by unfold maxLen; omega) (by simp) (by simp) (by simp) ?_ ?_
      · intro w6 m
        have hb2 := m.cell hb1 (fun h => h)
        simp [promOk, f15]
        exact same_one hb1 hb2
      intro vb kv3 w6 w7 H
      refine ⟨.inl rfl, ?_⟩
      simp [f15]
      refine st_h 4 H rfl (o := 1) (v := kv3) (by simp [f15]) (by simp) (by simp) (own_one (H.own 5 rfl)) ?_
      intro w8 H
      refine ⟨.inl rfl, ?_⟩
      have srd := H.rd 3 rfl
      have hg := srd.gi i hi
      have hp := srd.some (by omega)
      simp [-Int.natCast_add, hw2, f0, f1, f2, f3, f8, f10, f11, f12, f13, f14, f15, f16, sS, sL, hi, hg, hp, hwa]
      rw [intsV_snoc] at H
      exact ⟨by omega, kv3, H⟩
    · rintro env w' ⟨f0, f1, f2, f3, f8, f10, f11, f12, f13, f14, f15, f16, kv2, H⟩
      simp [f13, f16, sS, sL]
      refine ite_r (t := false) (by simp) (fun h => by cases h) (fun _ => ?_)
      obtain ⟨hc, hj4, _, _⟩ := blk2 (H.blk 4 rfl)
      simp [f15, hc]
      refine ⟨hj4, ?_⟩
      have hkr : Rd (fun _ => True) w' kv2 (bKs s l s.length).length (intsV (bKs s l s.length)) := by rw [bKs_len]; exact (H.rd 5 rfl).mono fun _ _ => trivial
      have hv2 := hv.at H.mod
      have hv3 : Rc (fun _ => True) w' v l.length (intsV l) := ⟨hv2.rd.mono fun _ _ => trivial, hv2.cap, hv2.len⟩
      refine callm (cost2_p j n wm hkr (by rw [bKs_len]; omega) hv3 hvl) (by simp (disch := omega) [wI, wU, tmod_nn, tdiv_nn, env0_0, env0_1, env0_2, env0_3, env0_4, env0_5, -env0_apply, planV, f0, f1, f3]) ?_
      intro w' M'
      replace H := H.same M'
      rw [← hbc]
      simp [f11]
      by_cases hcc : szB (j : Int) n wm = true ∧ ((bst n wm l j).2 = 0 ∨ bCost n wm l j < (bst n wm l j).2)
      · rw [if_pos hcc] at hst
        have hps := hpos hcc.1 hr hvl
        refine ite_r (t := true) (by simp; omega) (fun _ => ?_) (fun h => by cases h)
        obtain ⟨hc, hj4, _, _⟩ := blk2 (H.blk 4 rfl)
        simp [f15, hc]
        refine ⟨hj4, ?_⟩
        have hkc : kv2.cells = #[kv2] := by obtain ⟨cap, hv⟩ := (H.rd 5 rfl).is; rw [hv]; rfl
        refine stAll_h 1 H rfl (v := planV j kv2) (by simp [f10]) (by simp [planV]) (by rw [plan_cells _ _ hkc]; rfl) rfl (by rw [plan_cells _ _ hkc]; simp; exact own_one (H.own 5 rfl)) ?_
        intro w6 H
        rw [plan_cells _ _ hkc] at H
        refine ⟨.inl rfl, ?_⟩
        simp [-Int.natCast_add, f0, f1, f2, f3, f8, f10, f12, hw1, hst, bKs_len]
        exact ⟨by omega, kv2, ((H.drop 4).drop 3).drop 2⟩
      · rw [if_neg hcc] at hst
        have hno : ¬ (0 < bCost n wm l j ∧ ((bst n wm l j).2 = 0 ∨ bCost n wm l j < (bst n wm l j).2)) := by
          rintro ⟨h1, h2⟩
          cases hB : szB (j : Int) n wm
          · have := hneg hB; omega
          · exact hcc ⟨hB, h2⟩
        refine ite_r (t := false) (by simp; omega) (fun h => by cases h) (fun _ => ?_)
        simp [-Int.natCast_add, f0, f1, f2, f3, f8, f10, f11, f12, hw1, hst]
        exact ⟨by omega, kv, ((H.drop 5).drop 4).drop 3⟩
  · rintro env w' ⟨e0, e1, e2, e3, e8, e10, e11, e12, kv, H⟩
    simp [e2, e12]
    have : ¬ ((ordN most : Nat) : Int) ≤ min (max most 0) 8 := by unfold ordN; omega
    refine ite_r (t := false) (by simp; omega) (fun h => by cases h) (fun _ => ?_)
    have hkc : kv.cells = #[kv] := by obtain ⟨cap, hv⟩ := (H.rd 2 rfl).is; rw [hv]; rfl
    obtain ⟨hc, hj, _, _⟩ := blk2 (H.blk 1 rfl)
    simp [e10, hc]
    refine ⟨hj, ?_⟩
    refine stAll_h 0 H rfl (v := planV (bst n wm l (ordN most)).1.1 kv) (by simp [e8]) (by simp [planV]) (by rw [plan_cells _ _ hkc]; rfl) rfl (by rw [plan_cells _ _ hkc]; simp; exact own_one (H.own 2 rfl)) ?_
    intro w3 H
    rw [plan_cells _ _ hkc] at H
    refine ⟨.inl rfl, ?_⟩
    obtain ⟨hc, hj, _, _⟩ := blk2 (H.blk 0 rfl)
    simp [e8, hc]
    exact ⟨hj, _, rfl, (H.drop 0).drop 0⟩

end Go.Proofs.Ytajkofndbeohpaa.VG
