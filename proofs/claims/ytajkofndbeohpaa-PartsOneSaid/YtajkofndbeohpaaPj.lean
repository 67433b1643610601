/-
  Parts: a plan and a row got from bits, by the document; plans compared.
-/
import Derived.Test.YtajkofndbeohpaaPi
namespace Go.Proofs.Ytajkofndbeohpaa.VG
open Go
set_option linter.unusedSimpArgs false
set_option linter.unusedVariables false

set_option maxHeartbeats 4000000 in
theorem pget2_c {w : World} {G : Nat → Prop} {b : Nat} {v : Value} {l : List Nat} {p : Nat} {e : Int} (h : Yr w G b v l p e) (hG : ∀ k, G k → k < w.heap.size) (n wm : Int) :
    Calls Try.prog 35 [.pointer (some ⟨b, 0, none⟩), .int .i64 n, .int .i64 wm].toArray w (Ret fun r w' => PlanYd w G b v l r (getP l p e n wm) w') := by
  refine F_sound c35 (by simp [fc35]) ?_
  have H := Hp.openY h
  simp [fc35, s35]
  obtain ⟨i2, hi2, hz2⟩ : ∃ i, Try.prog.info? 24 = some i ∧ i.zero = some (planV 0 (.slice none 0 0)) := ⟨_, rfl, rfl⟩
  refine alloc_h H hi2 hz2 ?_
  intro t w1 H M1
  refine ⟨.inl rfl, ?_⟩
  have hpn : (planV 0 (.slice none 0 0)).cells = #[.int .i64 0, .slice none 0 0] := plan_cells 0 _ rfl
  rw [hpn] at H
  simp
  refine callp (prow2_c n wm) (by simp) ?_
  unfold getP
  by_cases hr : rowB n wm = true
  rotate_left
  · simp [hr]
    refine ite_r (t := true) (by simp [hr]) (fun _ => ?_) (fun h => by cases h)
    refine stAll_h 2 H rfl (v := planV 0 (.slice none 0 0)) (by simp) (by simp [planV]) rfl rfl (by rw [hpn]; simp) ?_
    intro w2 H
    rw [hpn] at H
    refine ⟨.inl rfl, ?_⟩
    obtain ⟨hc, hj, _, _⟩ := blk2 (H.blk 2 rfl)
    simp [hc, hj]
    exact ⟨hj, plan_badY h (H.drop 2)⟩
  simp [hr]
  refine ite_r (t := false) (by simp [hr]) (fun h => by cases h) (fun _ => ?_)
  obtain ⟨hY, hsz, up, up2⟩ := H.yqUp h
  refine call_h (yget_c hY 4) (by simp) ?_
  rintro r w2 ⟨rfl, A⟩
  replace H := up _ _ _ A
  have hO := rGet_lt l p e 4
  rw [show ((4 : Nat) : Int) = 4 from rfl] at hO
  generalize rGet l p e 4 = g at *
  obtain ⟨O, p1, e1⟩ := g
  simp only at *
  have hwO : IntKind.i64.wrap (O : Int) = O := wI (by omega) (by omega)
  simp [hwO]
  refine ⟨rfl, ?_⟩
  refine alloc_h H hi2 hz2 ?_
  intro t2 w4 H M4
  rw [hpn] at H
  refine ⟨.inl rfl, ?_⟩
  simp
  refine stAll_h 3 H rfl (v := planV O (.slice none 0 0)) (by simp) (by simp [planV, putAt, Value.cells, hwO]) rfl rfl (by rw [plan_cells _ _ rfl]; simp) ?_
  intro w5 H
  rw [plan_cells _ _ rfl] at H
  refine ⟨.inl rfl, ?_⟩
  obtain ⟨hY, hsz, up, up2⟩ := H.yqUp h
  obtain ⟨_, _, c2, _, _⟩ := hY.sl
  simp [c2]
  by_cases he : e1 ≠ 0
  · refine ite_r (t := true) (by simp [he]) (fun _ => ?_) (fun h => by cases h)
    simp [c2]
    refine stAll_h 2 H.drew rfl (v := planV 0 (.slice none 0 0)) (by simp) (by simp [planV]) rfl rfl (by rw [hpn]; simp) ?_
    intro w6 H
    rw [hpn] at H
    obtain ⟨hY, _⟩ := H.yqUp h
    obtain ⟨_, _, d2, _, _⟩ := hY.sl
    refine ⟨.inr ⟨by simp [promOk, SameCells, c2, d2], trivial⟩, ?_⟩
    obtain ⟨hc, hj, _, _⟩ := blk2 (H.blk 2 rfl)
    simp [hc, hj, he]
    exact ⟨hj, plan_badY h ((H.drop 2).drop 2)⟩
  obtain rfl : e1 = 0 := by omega
  refine ite_r (t := false) (by simp) (fun h => by cases h) (fun _ => ?_)
  obtain ⟨_, _, hb0, _⟩ := blk2 (H.blk 3 rfl)
  simp [hb0]
  refine call_h (sizes2_c (O : Int) n wm) (by simp) ?_
  intro sv w3 HR
  replace H := H.join HR
  obtain ⟨sS, sL⟩ := (H.rd 4 rfl).sl
  have hle := szS_le O n wm
  have hnil := @szS_nil O n wm
  have hlz : (szS O n wm).length = 0 ↔ szB O n wm = false := by rw [← hnil]; exact List.length_eq_zero_iff
  have hfact := @sz_fact O n wm
  generalize szS O n wm = s at *
  simp [sS, sL]
  by_cases hB : szB (O : Int) n wm = true
  rotate_left
  · have h0 := hlz.2 (by simpa using hB)
    refine ite_r (t := true) (by simp; rw [← List.length_eq_zero_iff]; omega) (fun _ => ?_) (fun h => by cases h)
    refine stAll_h 2 H rfl (v := planV 0 (.slice none 0 0)) (by simp) (by simp [planV]) rfl rfl (by rw [hpn]; simp) ?_
    intro w4 H
    rw [hpn] at H
    refine ⟨.inl rfl, ?_⟩
    obtain ⟨hc, hj, _, _⟩ := blk2 (H.blk 2 rfl)
    simp [hc, hj, hB]
    exact ⟨hj, plan_badY h (((H.drop 2).drop 2).drop 2)⟩
  obtain ⟨hge, hat, hpos⟩ := hfact hB
  refine ite_r (t := false) (by simp; rw [← List.length_eq_zero_iff]; omega) (fun h => by cases h) (fun _ => ?_)
  simp [hB]
  refine for_r s.length (fun i env' w' => env' 0 = .pointer (some ⟨b, 0, none⟩) ∧ env' 6 = .pointer (some ⟨t, 0, none⟩) ∧ env' 9 = .pointer (some ⟨t2, 0, none⟩) ∧ env' 10 = sv ∧ env' 12 = .int .i64 i ∧ (gTo l s p1 i).1.2.2 = 0 ∧
    ∃ kv, Hp (bare w) w' [.yq v l b (gTo l s p1 i).2.1 0, .old w (fun k => k = b), .blk t #[.int .i64 0, .slice none 0 0], .blk t2 #[.int .i64 O, kv], .own 3 1 sv s.length (intsV s), .own 3 1 kv (gTo l s p1 i).1.1.length (intsV (gTo l s p1 i).1.1), .own 3 1 (env' 11) (gTo l s p1 i).1.2.1.length (intsV (gTo l s p1 i).1.2.1)]) ?_ ?_ ?_
  · simp [gTo]
    exact ⟨_, H.nilS.nilS⟩
  · rintro i env w' hi ⟨f0, f6, f9, f10, f12, hok, kv, H⟩
    simp [f10, f12, sS, sL]
    refine ite_r (t := true) (by simp; omega) (fun _ => ?_) (fun h => by cases h)
    simp [wp_blk]
    have hst := gTo_stick (l := l) (s := s) (p0 := p1) (i := i + 1)
    have hnx : gTo l s p1 (i + 1) = if (oneQ l (gTo l s p1 i).2.1 (gi s i)).1.2 ≠ 0 then (([], [], (oneQ l (gTo l s p1 i).2.1 (gi s i)).1.2), (oneQ l (gTo l s p1 i).2.1 (gi s i)).2)
      else (((gTo l s p1 i).1.1 ++ [((rGet l (gTo l s p1 i).2.1 0 5).1 : Int)], (gTo l s p1 i).1.2.1 ++ (oneQ l (gTo l s p1 i).2.1 (gi s i)).1.1, 0), (oneQ l (gTo l s p1 i).2.1 (gi s i)).2) := by rw [gTo, if_neg (by simpa using hok)]
    have hln := gTo_len l s p1 (fun i hi => (hge i hi).2) i (by omega)
    generalize gTo l s p1 i = g at *
    obtain ⟨⟨ks, out, er⟩, p2, e2⟩ := g
    simp only at *
    subst hok
    obtain ⟨hg0, hg4⟩ := hge i hi
    have hol := oneQ_len l p2 (gi s i) hg4
    have hoe := @oneQ_ok l p2 (gi s i)
    have hO1 : oneQ l p2 (gi s i) = if (rGet l p2 0 5).2.2 ≠ 0 then (([], (rGet l p2 0 5).2.2), (rGet l p2 0 5).2) else partQ l (rGet l p2 0 5).2.1 (rGet l p2 0 5).1 (gi s i) := rfl
    generalize oneQ l p2 (gi s i) = q at *
    obtain ⟨⟨row, er⟩, p3, e3⟩ := q
    simp only at *
    obtain ⟨hY, hsz, up, up2⟩ := H.yqUp h
    refine call_h (yget_c hY 5) (by simp [f0]) ?_
    rintro r w6 ⟨rfl, A⟩
    replace H := up _ _ _ A
    have hk := rGet_lt l p2 0 5
    rw [show ((5 : Nat) : Int) = 5 from rfl] at hk
    generalize rGet l p2 0 5 = g at *
    obtain ⟨k1, p4, e4⟩ := g
    simp only at *
    have hwk : IntKind.i64.wrap (k1 : Int) = k1 := wI (by omega) (by omega)
    obtain ⟨hY, hsz, up, up2⟩ := H.yqUp h
    obtain ⟨_, _, c2, _, _⟩ := hY.sl
    simp [f0, c2, hwk]
    by_cases he4 : e4 ≠ 0
    · rw [if_pos he4] at hO1
      simp only [Prod.mk.injEq] at hO1
      obtain ⟨⟨rfl, rfl⟩, rfl, rfl⟩ := hO1
      rw [if_pos he4] at hnx
      rw [hst (by rw [hnx]; exact he4) s.length (by omega), hnx]
      refine ite_r (t := true) (by simp [he4]) (fun _ => ?_) (fun h => by cases h)
      simp [f0, c2]
      refine stAll_h 2 H.drew rfl (v := planV 0 (.slice none 0 0)) (by simp [f6]) (by simp [planV]) rfl rfl (by rw [hpn]; simp) ?_
      intro w7 H
      rw [hpn] at H
      obtain ⟨hY, _⟩ := H.yqUp h
      obtain ⟨_, _, d2, _, _⟩ := hY.sl
      refine ⟨.inr ⟨by simp [promOk, SameCells, f0, c2, d2], trivial⟩, ?_⟩
      obtain ⟨hc, hj, _, _⟩ := blk2 (H.blk 2 rfl)
      simp [f6, hc, hj, he4]
      exact ⟨hj, plan_badY h (((((H.drop 2).drop 2).drop 2).drop 2).drop 2)⟩
    obtain rfl : e4 = 0 := by omega
    rw [if_neg (by simp)] at hO1
    refine ite_r (t := false) (by simp) (fun h => by cases h) (fun _ => ?_)
    obtain ⟨_, _, _, hb1⟩ := blk2 (H.blk 3 rfl)
    simp [f9, hb1]
    refine app1_h slTI 5 H rfl (u := .int .i64 k1) (by simp) (by omega) (by unfold maxLen; omega) (by simp) (by simp) (by simp) (by simp) ?_
    intro vb kv2 w7 w8 H
    refine ⟨.inl rfl, ?_⟩
    simp [f9]
    refine st_h 3 H rfl (o := 1) (v := kv2) (by simp [f9]) (by simp) (by simp) (own_one (H.own 5 rfl)) ?_
    intro w9 H
    refine ⟨.inl rfl, ?_⟩
    have srd := H.rd 4 rfl
    have hg := srd.gi i hi
    have hp := srd.some (by omega)
    simp [f0, f10, f12, sS, sL, hi, hg, hp]
    obtain ⟨hY, hsz, up, up2⟩ := H.yqUp h
    refine call_h (ppart_c hY (fun k hk => by have := hG k hk; omega) (k1 : Int) (gi s i) hg0 hg4) (by simp [f0]) ?_
    rintro r w10 ⟨u, rfl, hrd1, hrd2⟩
    rw [← hO1] at hrd1 hrd2 ⊢
    simp only at hrd1 hrd2 ⊢
    replace H := up2 _ _ _ _ hrd1 hrd2
    simp
    by_cases he : er ≠ 0
    · rw [if_pos he] at hnx
      rw [hst (by rw [hnx]; exact he) s.length (by omega), hnx]
      refine ite_r (t := true) (by simp [he]) (fun _ => ?_) (fun h => by cases h)
      refine stAll_h 2 H rfl (v := planV 0 (.slice none 0 0)) (by simp [f6]) (by simp [planV]) rfl rfl (by rw [hpn]; simp) ?_
      intro w7 H
      rw [hpn] at H
      refine ⟨.inl rfl, ?_⟩
      obtain ⟨hc, hj, _, _⟩ := blk2 (H.blk 2 rfl)
      simp [f6, hc, hj, he]
      exact ⟨hj, plan_badY h ((((((H.drop 2).drop 2).drop 2).drop 2).drop 2).drop 2)⟩
    obtain rfl : er = 0 := by omega
    rw [if_neg (by simp)] at hnx
    obtain rfl : e3 = 0 := hoe rfl
    rw [hnx]
    refine ite_r (t := false) (by simp) (fun h => by cases h) (fun _ => ?_)
    refine app_h slTI 6 H rfl (H.rd 7 rfl) (by simp [intsV]) (intsV_one _) (by omega) (by unfold maxLen; omega) (by simp) (by simp) ?_
    intro v' w10 H
    refine ⟨.inl rfl, ?_⟩
    replace H := H.drop 7
    have hw1 : IntKind.i64.wrap ((i : Int) + 1) = ((i + 1 : Nat) : Int) := by rw [wI (by omega) (by omega)]; omega
    simp [-Int.natCast_add, hw1, f0, f6, f9, f10, f12]
    refine ⟨by omega, kv2, ?_⟩
    simp only [intsV_snoc, intsV_app] at H
    simpa using H
  · rintro env w' ⟨f0, f6, f9, f10, f12, hok, kv, H⟩
    simp [f10, f12, sS, sL]
    refine ite_r (t := false) (by simp) (fun h => by cases h) (fun _ => ?_)
    have hok2 := (gTo_ok hok).1
    generalize gTo l s p1 s.length = g at *
    obtain ⟨⟨ks, out, er⟩, p2, e2⟩ := g
    simp only at *
    subst hok hok2
    obtain ⟨hc, hj, hb0, hb1⟩ := blk2 (H.blk 3 rfl)
    simp [f9, hc, hj]
    refine ⟨hj, ?_⟩
    have hkc : kv.cells = #[kv] := by obtain ⟨cap, hv⟩ := (H.rd 5 rfl).is; rw [hv]; rfl
    refine stAll_h 2 H rfl (v := planV O kv) (by simp [f6]) (by simp [planV]) (by rw [plan_cells _ _ hkc]; rfl) rfl (by rw [plan_cells _ _ hkc]; simp; exact own_one (H.own 5 rfl)) ?_
    intro w7 H
    rw [plan_cells _ _ hkc] at H
    refine ⟨.inl rfl, ?_⟩
    obtain ⟨hc, hj, _, _⟩ := blk2 (H.blk 2 rfl)
    simp [f6, hc, hj]
    exact ⟨hj, _, _, rfl, (((H.drop 2).drop 2).drop 2).shutY h⟩

end Go.Proofs.Ytajkofndbeohpaa.VG
