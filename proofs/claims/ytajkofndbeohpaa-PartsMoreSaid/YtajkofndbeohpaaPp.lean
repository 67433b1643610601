/-
  Parts: laws of sizes, of getting.
-/
import Derived.Test.YtajkofndbeohpaaPq
namespace Go.Proofs.Ytajkofndbeohpaa.VG
open Go
set_option linter.unusedSimpArgs false
set_option linter.unusedVariables false

/-- One thing changes in its blocks, others are made. -/
theorem Hp.upR {W w : World} {l : List It} (h : Hp W w l) (j : Nat) {i : It} (hj : l[j]? = some i) : ∃ F, i.P w F ∧ (∀ k, F k → W.heap.size ≤ k) ∧
    ∀ (i' : It) (w' : World) (F' : Nat → Prop) (R : List It), Mod F w w' → i'.P w' F' → (∀ k, F' k → F k) → (∃ Gs, Sep w.heap.size w' R Gs) → Hp W w' (l.set j i' ++ R) := by
  obtain ⟨Fs, hs⟩ := h.sep
  obtain ⟨F, h1, h2, h3, h4⟩ := hs.upd hj
  refine ⟨F, h1, h2, fun i' w' F' R m hi' hF' ⟨Gs, hg⟩ => ?_⟩
  have hs' := h4 i' w' F' m hi' (fun k hk => h2 k (hF' k hk)) (fun k hk => .inl (hF' k hk))
  refine ⟨h.mod.trans m (fun k hk hF => by have := h2 k hF; omega), _, hs'.app h.mod.size hg ?_⟩
  intro K hK G hG k hk hk'
  have h5 := (hg.lt G hG k hk').2
  rcases List.mem_or_eq_of_mem_set hK with hK | rfl
  · have := (hs.lt K hK k hk).1; omega
  · have := (hs.lt _ (List.mem_of_getElem? h3) k (hF' k hk)).1; omega
theorem Hp.yrF {W w : World} {l : List It} (h : Hp W w l) (j : Nat) {b : Nat} {v : Value} {bs : List Nat} {p : Nat} {e : Int} (hj : l[j]? = some (.blk b #[v, .int .i64 p, .int .i64 e])) : ∀ p' e' w' R, YrAfter w (fun k => k < W.heap.size) b v bs p' e' w' → (∃ Gs, Sep w.heap.size w' R Gs) →
    Hp W w' (l.set j (.blk b #[v, .int .i64 p', .int .i64 e']) ++ R) := by
  obtain ⟨F, ⟨_, rfl⟩, h2, h4⟩ := h.upR j hj
  intro p' e' w' R ⟨q1, q2⟩ hR
  obtain ⟨el', h5⟩ := q1.is
  exact h4 _ w' (fun k => k = b) R q2 ⟨⟨el', h5⟩, rfl⟩ (fun k hk => hk) hR

theorem sz_gi {o n wm : Int} (h : szB o n wm = true) : gi (szS o n wm) 0 = n / pw o - wm ∧ ∀ i, 0 < i → i < (szS o n wm).length → gi (szS o n wm) i = n / pw o := by
  rw [szS, if_pos h]
  refine ⟨rfl, fun i h0 hi => ?_⟩
  obtain ⟨j, rfl⟩ : ∃ j, i = j + 1 := ⟨i - 1, by omega⟩
  simp only [List.length_cons, List.length_replicate] at hi
  show (List.replicate _ _).getD j 0 = _
  rw [List.getD_eq_getElem?_getD, List.getElem?_replicate, if_pos (by omega)]; rfl

set_option maxHeartbeats 2000000 in
theorem psizes_c {w : World} (o n wm : Int) : Calls Try.prog 5 [.int .i64 o, .int .i64 n, .int .i64 wm].toArray w (Ret fun r w' => r = .bool true ∧ Mod none' w w') := by
  refine F_sound c5 (by simp [fc5]) ?_
  simp [fc5, s5]
  refine callm pknown_c (by simp) ?_
  intro w1 M1
  have H := Hp.ofMod M1
  simp
  refine ite_r (t := false) (by simp) (fun h => by cases h) (fun _ => ?_)
  refine call_h (sizes_c o n wm) (by simp) ?_
  intro sv w2 HR
  replace H := H.join HR
  have srd := H.rd 0 rfl
  obtain ⟨sS, sL⟩ := srd.sl
  have hle := szS_le o n wm
  have hlen := szS_len o n wm
  by_cases hB : szB o n wm = true
  rotate_left
  · rw [if_neg hB] at hlen
    simp [sS, sL, hlen]
    have hmod := H.mod
    refine ite_r (t := true) (by simp) (fun _ => ?_) (fun h => by cases h)
    by_cases h1 : (0 ≤ o ∧ o ≤ 8) ∧ rowB n wm = true
    · obtain ⟨⟨o0, o8⟩, hr⟩ := h1
      have hr' := rowB_iff.1 hr
      have hno : ¬ (n % pw o = 0 ∧ wm ≤ n / pw o) := fun h => hB (szB_iff.2 ⟨hr, ⟨o0, o8⟩, h⟩)
      obtain ⟨O, rfl⟩ : ∃ O : Nat, o = O := ⟨o.toNat, by omega⟩
      obtain ⟨_, s2, _, s4⟩ := shl_pm O (by omega)
      have hwO : IntKind.u64.wrap (O : Int) = O := wU (by omega) (by omega)
      have hsh : shr .i64 n (O : Int) = n / pw O := shr_int _ _ _ (by simp only [IntKind.bits]; omega)
      have hP : pw (O : Int) = ((2 ^ O : Nat) : Int) := rfl
      rw [← hP] at s2
      have htm : n.tmod (pw (O : Int)) = n % pw O := Int.tmod_eq_emod_of_nonneg (by omega)
      generalize 2 ^ O = P at *
      generalize pw (O : Int) = Pi at *
      subst hP
      simp [hwO, s2, htm, hsh]
      exact ⟨fun _ _ _ _ _ _ => by omega, by omega, hmod⟩
    · rw [rowB_iff] at h1
      simp
      exact ⟨fun _ _ _ _ _ _ => by omega, fun _ _ _ _ _ _ => by omega, fun _ _ _ _ _ _ _ => by omega, by omega, hmod⟩
  obtain ⟨hr, ⟨o0, o8⟩, hm, hw⟩ := szB_iff.1 hB
  have hr' := rowB_iff.1 hr
  obtain ⟨hge, hat, hpos⟩ := sz_fact hB
  obtain ⟨hg0, hgi⟩ := sz_gi hB
  rw [if_pos hB] at hlen
  obtain ⟨O, rfl⟩ : ∃ O : Nat, o = O := ⟨o.toNat, by omega⟩
  obtain ⟨_, s2, _, s4⟩ := shl_pm O (by omega)
  have hwO : IntKind.u64.wrap (O : Int) = O := wU (by omega) (by omega)
  have hdb := div_bd (n := n) (P := pw (O : Int)) (by omega) (by have := pw_bd o8; unfold pw; omega)
  rw [Int.toNat_natCast] at hlen
  generalize szS (O : Int) n wm = s at *
  generalize n / pw (O : Int) = q at *
  generalize 2 ^ O = P at *
  simp [sS, sL, hlen]
  refine ite_r (t := false) (by simp; omega) (fun h => by cases h) (fun _ => ?_)
  simp
  refine for_r s.length (fun i env' w' => env' 0 = .int .i64 O ∧ env' 1 = .int .i64 n ∧ env' 2 = .int .i64 wm ∧ env' 7 = sv ∧ env' 8 = .int .i64 (atI s i) ∧ env' 9 = .int .i64 i ∧ Mod none' w2 w') ?_ ?_ ?_
  · simp [atI]
    exact Mod.refl _ _
  · rintro i env w' hi ⟨e0, e1, e2, e7, e8, e9, M⟩
    simp [e7, e9, sS, sL]
    refine ite_r (t := true) (by simp; omega) (fun _ => ?_) (fun h => by cases h)
    simp [wp_blk]
    have srd' := srd.at M
    have hg := srd'.gi i hi
    have h0 := srd'.gi 0 (by omega)
    have hp := srd'.some (by omega)
    obtain ⟨g0, g4⟩ := hge i hi
    have hmo := atI_mono s (i + 1) s.length hi
    have ha1 : (atI s (i + 1) : Int) = atI s i + gi s i := by simp only [atI]; omega
    have hwa : IntKind.i64.wrap ((atI s i : Int) + gi s i) = (atI s (i + 1) : Int) := by rw [wI (by omega) (by omega)]; omega
    have hwb : IntKind.i64.wrap (gi s 0 + wm) = q := by rw [wI (by omega) (by omega)]; omega
    have hw1 : IntKind.i64.wrap ((i : Int) + 1) = ((i + 1 : Nat) : Int) := by rw [wI (by omega) (by omega)]; omega
    rw [add_zero] at h0
    simp [e2, e7, e8, e9, sS, sL, hi, hg, h0, hp, hwa, hwb, show 0 < s.length by omega]
    have hgi' : 0 < i → gi s i = q := fun h => hgi i h hi
    refine ite_r (t := false) (by simp [e2, e7, e8, e9, sS, sL, hi, hg, h0, hp, hwa, hwb]; omega) (fun h => by cases h) (fun _ => ?_)
    simp [-Int.natCast_add, e0, e1, e2, e7, e8, e9, hw1]
    exact ⟨by omega, M.drew⟩
  · rintro env w' ⟨e0, e1, e2, e7, e8, e9, M⟩
    simp [e7, e9, sS, sL]
    refine ite_r (t := false) (by simp) (fun h => by cases h) (fun _ => ?_)
    have hw2 : IntKind.i64.wrap (n - wm) = n - wm := wI (by omega) (by omega)
    simp [e0, e1, e2, e7, e8, sS, sL, hwO, s2, hw2]
    exact ⟨by omega, H.mod.tr M⟩

theorem getP_len (l : List Nat) (p : Nat) (e n wm : Int) : (getP l p e n wm).1.2.1.length ≤ 256 ∧ (getP l p e n wm).1.2.2.1.length ≤ 1073741824 := by
  unfold getP
  split
  · simp
  split
  · simp
  split
  · simp
  split
  · simp
  rename_i hB _
  have hB' : szB (rGet l p e 4).1 n wm = true := by simpa using hB
  obtain ⟨hge, _, _⟩ := sz_fact hB'
  have hle := szS_le (rGet l p e 4).1 n wm
  have := gTo_len l (szS (rGet l p e 4).1 n wm) (rGet l p e 4).2.1 (fun i hi => (hge i hi).2) (szS (rGet l p e 4).1 n wm).length (Nat.le_refl _)
  simp only
  omega

set_option maxHeartbeats 4000000 in
theorem pgets_c {w : World} {v : Value} {l : List Nat} (n wm skip : Int) (h : Rd (fun b => b < w.heap.size) w v l.length (bytesV l)) (hf : ∀ x ∈ l, x < 256) : Calls Try.prog 7 [v, .int .i64 n, .int .i64 wm, .int .i64 skip].toArray w (Ret fun r w' => r = .bool true ∧ Mod none' w w') := by
  refine F_sound c7 (by simp [fc7]) ?_
  obtain ⟨hS, hL⟩ := h.sl
  simp [fc7, s7]
  refine callm pknown_c (by simp) ?_
  intro w1 M1
  have H := Hp.ofMod M1
  simp
  refine ite_r (t := false) (by simp) (fun h => by cases h) (fun _ => ?_)
  simp [hS, hL]
  by_cases hbig : 300 < l.length ∨ 500 < n ∧ n ≤ 4096
  · refine ite_r (t := true) (by simp; omega) (fun _ => ?_) (fun h => by cases h)
    simp
    exact M1
  refine ite_r (t := false) (by simp; omega) (fun h => by cases h) (fun _ => ?_)
  simp
  refine call_h (new_c (h.at H.mod) hf (by omega)) (by simp) ?_
  rintro r w2 ⟨b, G, rfl, hR, M2, hG⟩
  replace H := H.newRr hR M2 hG
  refine call_h (ynew_c (h.at H.mod) (fun k hk => by have := H.mod.size; omega) hf (by omega)) (by simp) ?_
  rintro r w3 ⟨c, rfl, hc, hY, M3⟩
  replace H := H.add (i := .blk c #[v, .int .i64 ((0 : Nat) : Int), .int .i64 0]) (F := fun k => k = c) M3 ⟨hY.is, rfl⟩ (fun k hk => by omega)
  have hle := hY.le
  simp
  refine ite_r (t := false) (by simp) (fun h => by cases h) (fun _ => ?_)
  simp
  obtain ⟨FW, hW, hFW, upW⟩ := H.rr 0 rfl
  refine call_h (get_c hW skip) (by simp (disch := omega) [wI, wU, tmod_nn, tdiv_nn, env0_0, env0_1, env0_2, env0_3, env0_4, env0_5, -env0_apply]) ?_
  rintro r wW ⟨rfl, AW⟩
  replace H := upW _ _ _ AW
  obtain ⟨hY, upY⟩ := H.yr 1 rfl h hf hle (by omega)
  refine call_h (yget_c hY skip) (by simp) ?_
  rintro r w5 ⟨rfl, AY⟩
  replace H := upY _ _ _ AY
  have hle := AY.1.le
  generalize rGet l 0 0 skip = g at *
  obtain ⟨g1, p, e⟩ := g
  simp only at *
  obtain ⟨i2, hi2, hz2⟩ : ∃ i, Try.prog.info? 24 = some i ∧ i.zero = some (planV 0 (.slice none 0 0)) := ⟨_, rfl, rfl⟩
  have hpn : (planV 0 (.slice none 0 0)).cells = #[.int .i64 0, .slice none 0 0] := plan_cells 0 _ rfl
  obtain ⟨F, hR, _, up⟩ := H.rrF 0 rfl
  refine call_h (pget_c hR n wm) (by simp) ?_
  have hlen := getP_len l p e n wm
  rintro r w6 ⟨qv, mv, rfl, q1, q2⟩
  replace H := up _ _ _ _ q1 q2
  simp
  have hqc : qv.cells = #[qv] := by obtain ⟨cap, hv⟩ := (H.rd 2 rfl).is; rw [hv]; rfl
  refine alloc_h H hi2 hz2 ?_
  intro t1 w7 H M7
  rw [hpn] at H
  refine ⟨.inl rfl, ?_⟩
  simp
  refine stAll_h 4 H rfl (v := planV (getP l p e n wm).1.1 qv) (by simp) (by simp) (by rw [plan_cells _ _ hqc]; rfl) rfl (by rw [plan_cells _ _ hqc]; simp; exact own_one (H.own 2 rfl)) ?_
  intro w8 H
  rw [plan_cells _ _ hqc] at H
  refine ⟨.inl rfl, ?_⟩
  simp
  obtain ⟨hY, _⟩ := H.yr 1 rfl h hf hle (by omega)
  have upY := H.yrF (bs := l) 1 rfl
  refine call_h (pget2_c hY (fun k hk => by have := H.mod.size; omega) n wm) (by simp) ?_
  rintro r w9 ⟨qv2, mv2, rfl, q1, q2⟩
  replace H := upY _ _ _ _ q1 q2
  generalize getP l p e n wm = s at *
  obtain ⟨⟨o, ks, out, er⟩, q, e'⟩ := s
  simp only at *
  simp
  have hqc2 : qv2.cells = #[qv2] := by obtain ⟨cap, hv⟩ := (H.rd 5 rfl).is; rw [hv]; rfl
  refine alloc_h H hi2 hz2 ?_
  intro t2 w10 H M10
  rw [hpn] at H
  refine ⟨.inl rfl, ?_⟩
  simp
  refine stAll_h 7 H rfl (v := planV o qv2) (by simp) (by simp) (by rw [plan_cells _ _ hqc2]; rfl) rfl (by rw [plan_cells _ _ hqc2]; simp; exact own_one (H.own 5 rfl)) ?_
  intro w11 H
  rw [plan_cells _ _ hqc2] at H
  refine ⟨.inl rfl, ?_⟩
  replace H := H.drew
  obtain ⟨hc1, hj1, _, _⟩ := blk2 (H.blk 4 rfl)
  obtain ⟨hc2, hj2, _, _⟩ := blk2 (H.blk 7 rfl)
  rw [cellsFrom_drew] at hc1 hc2
  simp at hj1 hj2
  simp [hc1, hc2]
  refine ⟨hj1, hj2, ?_⟩
  refine ifg_r (t := true) (by simp) (fun _ => ?_) (fun h => (h rfl).elim)
  refine callm (sameParts_c (ks := ks) (ms := ks) o o (H.rd 2 rfl) (H.rd 5 rfl) (by unfold maxLen; omega)) (by simp (disch := omega) [wI, wU, tmod_nn, tdiv_nn, env0_0, env0_1, env0_2, env0_3, env0_4, env0_5, -env0_apply, planV]) ?_
  intro w' M'
  replace H := H.same M'
  simp
  refine ifg_r (t := true) (by simp) (fun _ => ?_) (fun h => (h rfl).elim)
  refine callm (sameInts_c (l := out) (m := out) (H.rd 3 rfl) (H.rd 6 rfl) (by unfold maxLen; omega)) (by simp (disch := omega) [wI, wU, tmod_nn, tdiv_nn, env0_0, env0_1, env0_2, env0_3, env0_4, env0_5, -env0_apply]) ?_
  intro w' M'
  replace H := H.same M'
  have hc := H.blk 1 rfl 1
  simp at hc
  simp [hc]
  by_cases her : er = 0
  · refine ifg_r (t := false) (by simp [her]) (fun _ => ?_) (fun h => (h rfl).elim)
    obtain ⟨F, hR, _⟩ := H.rr 0 rfl
    refine call_r _ (at_c hR) (by simp) ?_
    rintro r _ ⟨rfl, rfl⟩
    refine ⟨by simp [promOk, SameCells], ?_⟩
    simp [her, hc]
    exact H.mod
  · refine ifg_r (t := true) (by simp [her]) (fun h => by cases h) (fun _ => ?_)
    simp [her]
    exact H.mod

set_option maxHeartbeats 4000000 in
theorem pback_c {w : World} {kv v : Value} {ks l : List Int} (o n wm : Int) (h : Rc (fun k => k < w.heap.size) w kv ks.length (intsV ks)) (hv : Rc (fun k => k < w.heap.size) w v l.length (intsV l)) :
    Calls Try.prog 8 [planV o kv, .int .i64 n, .int .i64 wm, v].toArray w (Ret fun r w' => r = .bool true ∧ Mod none' w w') := by
  refine F_sound c8 (by simp [fc8]) ?_
  have hkc : kv.cells = #[kv] := by obtain ⟨cap, hv⟩ := h.rd.is; rw [hv]; rfl
  obtain ⟨vS, vL, vC⟩ := hv.sl
  simp [fc8, s8]
  refine box_h (planV o kv) (Hp.nil w) (by simp) ?_
  intro t w1 H M1
  rw [plan_cells _ _ hkc] at H
  refine ⟨.inl rfl, ?_⟩
  simp
  refine callm (pknown_c) (by simp (disch := omega) [wI, wU, tmod_nn, tdiv_nn, env0_0, env0_1, env0_2, env0_3, env0_4, env0_5, -env0_apply]) ?_
  intro w' M'
  replace H := H.same M'
  simp
  refine ite_r (t := false) (by simp) (fun h => by cases h) (fun _ => ?_)
  obtain ⟨hc, hj, _, _⟩ := blk2 (H.blk 0 rfl)
  simp [hc]
  refine ⟨hj, ?_⟩
  refine callm (small_c o (h.rd.at H.mod) (hv.rd.at H.mod)) (by simp (disch := omega) [wI, wU, tmod_nn, tdiv_nn, env0_0, env0_1, env0_2, env0_3, env0_4, env0_5, -env0_apply, planV]) ?_
  intro w' M'
  replace H := H.same M'
  generalize hsm : (decide (ks.length ≤ 300) && decide (l.length ≤ 400)) = sm
  obtain ⟨hc, hj, _, _⟩ := blk2 (H.blk 0 rfl)
  cases sm
  · simp [hc]
    refine ifg_r (t := true) (by simp) (fun h => by cases h) (fun _ => ?_)
    simp
    refine ifg_r (t := true) (by simp) (fun h => by cases h) (fun _ => ?_)
    simp
    refine ite_r (t := true) (by simp) (fun _ => ?_) (fun h => by cases h)
    simp
    exact H.mod
  obtain ⟨hs1, hs2⟩ : ks.length ≤ 300 ∧ l.length ≤ 400 := by simpa using hsm
  simp [hc]
  refine ⟨hj, ?_⟩
  refine ifg_r (t := false) (by simp) (fun _ => ?_) (fun h => (h rfl).elim)
  refine callm (may2_c o n wm (h.rd.at H.mod) (by omega)) (by simp (disch := omega) [wI, wU, tmod_nn, tdiv_nn, env0_0, env0_1, env0_2, env0_3, env0_4, env0_5, -env0_apply, planV, hc]) ?_
  intro w' M'
  replace H := H.same M'
  cases hm : mayB o ks n wm
  · simp
    refine ifg_r (t := true) (by simp) (fun h => by cases h) (fun _ => ?_)
    simp
    refine ite_r (t := true) (by simp) (fun _ => ?_) (fun h => by cases h)
    simp
    exact H.mod
  have hr' := rowB_iff.1 (szB_iff.1 (may_iff.1 hm).1).1
  have hwn : IntKind.i64.wrap (n - wm) = n - wm := wI (by omega) (by omega)
  simp [vS, vL, hwn]
  by_cases hln : (l.length : Int) = n - wm
  rotate_left
  · refine ifg_r (t := true) (by simp [hln]) (fun h => by cases h) (fun _ => ?_)
    simp [hln]
    refine ite_r (t := true) (by simp [hln]) (fun _ => ?_) (fun h => by cases h)
    simp
    exact H.mod
  refine ifg_r (t := false) (by simp [hln]) (fun _ => ?_) (fun h => (h rfl).elim)
  refine callp (allWide2_c (hv.rd.at H.mod) (by unfold maxLen; omega)) (by simp) ?_
  cases ha : allW l
  · simp
    refine ite_r (t := true) (by simp) (fun _ => ?_) (fun h => by cases h)
    simp
    exact H.mod
  simp [hln]
  refine ite_r (t := false) (by simp) (fun h => by cases h) (fun _ => ?_)
  have hr : rightB n wm l = true := right_iff.2 ⟨(szB_iff.1 (may_iff.1 hm).1).1, hln, ha⟩
  simp
  refine wrbox_h H (by simp) ?_
  intro b w2 H M2
  refine ⟨.inl rfl, ?_⟩
  simp
  obtain ⟨FW, hW, hFW, upW, rdW⟩ := H.wr 1 rfl
  refine call_h (put_yes hW 1 1 (by omega) (by decide) (by simp)) (by simp (disch := omega) [wI, wU, tmod_nn, tdiv_nn, env0_0, env0_1, env0_2, env0_3, env0_4, env0_5, -env0_apply]) ?_
  rintro r wW ⟨rfl, AW⟩
  replace H := upW _ _ AW
  have hbl := putB_le hm l
  have hlen := putB_len hm hr
  have hg := getP_back hm hr (toB 1 1) []
  have hg2 := rGet_pack [] (toB 1 1) (putB o ks n wm l) (by rw [toB_length]; omega)
  have hl1 : (toB 1 1).length = 1 := toB_length 1 1
  rw [hl1] at hg hg2
  simp at hg hg2
  replace H := H.drew
  simp at H
  obtain ⟨hc, hj, hb0, hb1⟩ := blk2 (H.blk 0 rfl)
  rw [cellsFrom_drew] at hc
  simp at hj
  simp [hc]
  refine ⟨hj, ?_⟩
  obtain ⟨FW, hW, hFW, upW, _⟩ := H.wr 1 rfl
  refine call_h (pput_yes o n wm hW (h.rd.at H.mod) (by omega) (hv.at H.mod) (by omega) hFW (fun k hk => by have := H.mod.size; omega) (by omega) ⟨hm, hr⟩) (by simp [planV]) ?_
  rintro r w5 ⟨rfl, A⟩
  replace H := upW _ _ A
  generalize putB o ks n wm l = pb at *
  obtain ⟨hc, hj, hb0, hb1⟩ := blk2 (H.blk 0 rfl)
  simp [hc]
  refine ⟨hj, ?_⟩
  refine ifg_r (t := false) (by simp) (fun _ => ?_) (fun h => (h rfl).elim)
  obtain ⟨FW, hW, _⟩ := H.wr 1 rfl
  refine call_r _ (len_c hW) (by simp) ?_
  rintro r _ ⟨rfl, rfl⟩
  refine ⟨by simp [promOk, SameCells], ?_⟩
  simp [hc]
  refine ifg_r (t := false) (by simp) (fun _ => ?_) (fun h => (h rfl).elim)
  refine callm (cost_p o n wm (h.rd.at H.mod) (by omega) (hv.at H.mod) (by omega)) (by simp (disch := omega) [wI, wU, tmod_nn, tdiv_nn, env0_0, env0_1, env0_2, env0_3, env0_4, env0_5, -env0_apply, planV, hc]) ?_
  intro w' M'
  replace H := H.same M'
  rw [← hlen]
  have hw1 : IntKind.i64.wrap (1 + (pb.length : Int)) = 1 + (pb.length : Int) := wI (by omega) (by omega)
  simp [hw1, hl1]
  refine ite_r (t := false) (by simp) (fun h => by cases h) (fun _ => ?_)
  simp
  obtain ⟨FW, hW, _⟩ := H.wr 1 rfl
  refine call_h (bytes_c hW (by simp [hl1]; omega)) (by simp) ?_
  intro vb w7 A
  replace H := H.newBytes A
  simp
  refine call_h (new_c (H.rd 2 rfl) (packB_fits _) (by rw [packB_length]; simp [hl1]; omega)) (by simp) ?_
  rintro r w8 ⟨c, G, rfl, hR, M8, hG⟩
  replace H := H.newRr hR M8 hG
  simp
  refine ite_r (t := false) (by simp) (fun h => by cases h) (fun _ => ?_)
  simp
  obtain ⟨FW, hW, hFW, upW⟩ := H.rr 3 rfl
  refine call_h (get_c hW 1) (by simp (disch := omega) [wI, wU, tmod_nn, tdiv_nn, env0_0, env0_1, env0_2, env0_3, env0_4, env0_5, -env0_apply]) ?_
  rintro r wW ⟨rfl, AW⟩
  replace H := upW _ _ _ AW
  simp at H
  rw [hg2] at H
  obtain ⟨F, hR, _, up⟩ := H.rrF 3 rfl
  refine call_h (pget_c hR n wm) (by simp) ?_
  rw [hg]
  rintro r w9 ⟨qv, mv, rfl, q1, q2⟩
  replace H := up _ _ _ _ q1 q2
  simp only at H
  simp
  have hqc : qv.cells = #[qv] := by obtain ⟨cap, hv⟩ := (H.rd 4 rfl).is; rw [hv]; rfl
  obtain ⟨i2, hi2, hz2⟩ : ∃ i, Try.prog.info? 24 = some i ∧ i.zero = some (planV 0 (.slice none 0 0)) := ⟨_, rfl, rfl⟩
  have hpn : (planV 0 (.slice none 0 0)).cells = #[.int .i64 0, .slice none 0 0] := plan_cells 0 _ rfl
  refine alloc_h H hi2 hz2 ?_
  intro t2 w10 H M10
  rw [hpn] at H
  refine ⟨.inl rfl, ?_⟩
  simp
  refine stAll_h 6 H rfl (v := planV o qv) (by simp) (by simp) (by rw [plan_cells _ _ hqc]; rfl) rfl (by rw [plan_cells _ _ hqc]; simp; exact own_one (H.own 4 rfl)) ?_
  intro w11 H
  rw [plan_cells _ _ hqc] at H
  refine ⟨.inl rfl, ?_⟩
  obtain ⟨hc, hj, _, _⟩ := blk2 (H.blk 0 rfl)
  obtain ⟨hc2, hj2, _, _⟩ := blk2 (H.blk 6 rfl)
  simp [hc, hc2]
  refine ⟨hj, hj2, ?_⟩
  refine ifg_r (t := true) (by simp) (fun _ => ?_) (fun h => (h rfl).elim)
  refine callm (sameParts_c (ks := ks) (ms := ks) o o (h.rd.at H.mod) (H.rd 4 rfl) (by unfold maxLen; omega)) (by simp (disch := omega) [wI, wU, tmod_nn, tdiv_nn, env0_0, env0_1, env0_2, env0_3, env0_4, env0_5, -env0_apply, planV, hc, hc2]) ?_
  intro w' M'
  replace H := H.same M'
  simp
  refine ifg_r (t := true) (by simp) (fun _ => ?_) (fun h => (h rfl).elim)
  refine callm (sameInts_c (l := l) (m := l) (hv.rd.at H.mod) (H.rd 5 rfl) (by unfold maxLen; omega)) (by simp (disch := omega) [wI, wU, tmod_nn, tdiv_nn, env0_0, env0_1, env0_2, env0_3, env0_4, env0_5, -env0_apply]) ?_
  intro w' M'
  replace H := H.same M'
  simp
  refine ifg_r (t := true) (by simp) (fun _ => ?_) (fun h => (h rfl).elim)
  obtain ⟨F, hR, _⟩ := H.rr 3 rfl
  refine callp (at_c hR) (by simp) ?_
  simp
  refine ifg_r (t := true) (by simp) (fun _ => ?_) (fun h => (h rfl).elim)
  obtain ⟨FW, hW, _⟩ := H.wr 1 rfl
  refine callp (len_c hW) (by simp) ?_
  simp [hl1]
  exact H.mod

end Go.Proofs.Ytajkofndbeohpaa.VG