/-
  Parts: how a row is cut; what a plan costs.
-/
import Derived.Test.YtajkofndbeohpaaPc
namespace Go.Proofs.Ytajkofndbeohpaa.VG
open Go
set_option linter.unusedSimpArgs false
set_option linter.unusedVariables false

def atI (s : List Int) : Nat → Nat
  | 0 => 0
  | i + 1 => atI s i + (gi s i).toNat
def partI (s l : List Int) (i : Nat) : List Int := (l.drop (atI s i)).take (gi s i).toNat
def costTo (ks s l : List Int) : Nat → Int
  | 0 => 4
  | i + 1 => costTo ks s l i + (5 + pcostI (gi ks i) (partI s l i))
def costP (o : Int) (ks : List Int) (n wm : Int) (l : List Int) : Int := if mayB o ks n wm = true ∧ rightB n wm l = true then costTo ks (szS o n wm) l (szS o n wm).length else 0

theorem atI_mono (s : List Int) : ∀ i j, i ≤ j → atI s i ≤ atI s j
  | i, 0, h => by obtain rfl : i = 0 := by omega
                  exact Nat.le_refl _
  | i, j + 1, h => by
    by_cases he : i = j + 1
    · subst he; exact Nat.le_refl _
    · have := atI_mono s i j (by omega)
      simp only [atI]; omega
theorem costTo_bd (ks s l : List Int) (hl : l.length ≤ 1000000) : ∀ i : Nat, 4 + 5 * (i : Int) ≤ costTo ks s l i ∧ costTo ks s l i ≤ 4 + 65000005 * (i : Int)
  | 0 => by simp [costTo]
  | i + 1 => by
    have h1 := costTo_bd ks s l hl i
    have h2 := pcostI_bd (gi ks i) (partI s l i) (by unfold partI; simp; omega)
    simp only [costTo]
    omega
/-- The sizes of a row that may be cut. -/
theorem sz_fact {o n wm : Int} (h : szB o n wm = true) : (∀ i, i < (szS o n wm).length → 0 ≤ gi (szS o n wm) i ∧ gi (szS o n wm) i ≤ 4096) ∧ (atI (szS o n wm) (szS o n wm).length : Int) = n - wm ∧ 0 < (szS o n wm).length := by
  have hlen := szS_len o n wm
  rw [if_pos h] at hlen
  have hs : szS o n wm = (n / pw o - wm) :: List.replicate (2 ^ o.toNat - 1) (n / pw o) := by rw [szS, if_pos h]
  obtain ⟨hr, ⟨o0, o8⟩, hm, hw⟩ := szB_iff.1 h
  have hr' := rowB_iff.1 hr
  have hp := pw_bd o8
  have hP : pw o = ((2 ^ o.toNat : Nat) : Int) := rfl
  have hd := div_bd (n := n) (P := pw o) (by omega) (by omega)
  have hc := (cut_iff n (pw o)).2 hm
  generalize szS o n wm = s at *
  generalize n / pw o = q at *
  generalize 2 ^ o.toNat = P at *
  have g0 : gi s 0 = q - wm := by rw [hs]; rfl
  have gs : ∀ j, j + 1 < P → gi s (j + 1) = q := by
    intro j hj
    rw [hs]
    show (List.replicate (P - 1) q).getD j 0 = q
    rw [List.getD_eq_getElem?_getD, List.getElem?_replicate, if_pos (by omega)]; rfl
  have key : ∀ i : Nat, i < P → (atI s (i + 1) : Int) = ((i : Int) + 1) * q - wm := by
    intro i
    induction i with
    | zero =>
      intro _
      simp only [atI, g0]
      simp
      omega
    | succ i ih =>
      intro hi
      have := ih (by omega)
      rw [atI, gs i hi]
      have e : ((i + 1 : Nat) : Int) + 1 = (i : Int) + 1 + 1 := by omega
      rw [e, Int.add_mul ((i : Int) + 1) 1 q, Int.one_mul]
      omega
  refine ⟨fun i hi => ?_, ?_, by omega⟩
  · cases i with
    | zero => rw [g0]; omega
    | succ j => rw [gs j (by omega)]; omega
  · rw [hlen]
    obtain ⟨R, rfl⟩ : ∃ R, P = R + 1 := ⟨P - 1, by omega⟩
    rw [key R (by omega)]
    have e : ((R : Int) + 1) * q = n := by rw [Int.mul_comm, ← hc, hP]; rfl
    rw [e]

theorem pcost_k {G : Nat → Prop} {w : World} {v : Value} {l : List Int} (h : Rc G w v l.length (intsV l)) {s : List Int} {i : Nat} (hi : atI s (i + 1) ≤ l.length) {r : Value} (hr : Rc G w r (l.drop (atI s i)).length (intsV (l.drop (atI s i)))) :
    Rc G w (slVal 1 r 0 (gi s i).toNat) (partI s l i).length (intsV (partI s l i)) ∧ Rc G w (slVal 1 r (gi s i).toNat (l.drop (atI s i)).length) (l.drop (atI s (i + 1))).length (intsV (l.drop (atI s (i + 1)))) := by
  simp only [atI] at hi
  have h1 := hr.cuti 0 (gi s i).toNat (Nat.zero_le _) (by simp; omega)
  have h2 := hr.cuti (gi s i).toNat (l.drop (atI s i)).length (by simp; omega) (Nat.le_refl _)
  rw [List.take_length, List.drop_drop] at h2
  rw [List.drop_zero] at h1
  exact ⟨h1, h2⟩

set_option maxHeartbeats 2000000 in
theorem cost_p {G : Nat → Prop} {w : World} {kv v : Value} {ks l : List Int} (o n wm : Int) (h : Rd G w kv ks.length (intsV ks)) (hl : ks.length ≤ 1000000) (hv : Rc G w v l.length (intsV l)) (hvl : l.length ≤ 1000000) : Calls Try.prog 19 [planV o kv, .int .i64 n, .int .i64 wm, v].toArray w (Ret fun r w' => r = .int .i64 (costP o ks n wm l) ∧ Mod none' w w') := by
  refine F_sound c19 (by simp [fc19]) ?_
  obtain ⟨hS, hL⟩ := h.sl
  have h1c : kv.cells = #[kv] := by obtain ⟨cap, hv⟩ := h.is; rw [hv]; rfl
  simp [fc19, s19]
  refine box_h (planV o kv) (Hp.nil w) (by simp) ?_
  intro b w1 H M1
  refine ⟨.inl rfl, ?_⟩
  have hpc : (planV o kv).cells = #[.int .i64 o, kv] := by simp [planV, Value.cells, h1c, putAt]
  have hcl := cells_blk (H.blk 0 rfl) 2 (by rw [hpc]; rfl)
  have hb0 := H.blk 0 rfl 0
  have hb1 := H.blk 0 rfl 1
  rw [hpc] at hb0 hb1 hcl
  simp at hb0 hb1
  have hj : ∀ (j : Nat), j < 2 → (w1.cell? ⟨b, j, none⟩).isSome = true := by
    intro j hj
    obtain rfl | rfl : j = 0 ∨ j = 1 := by omega
    · rw [hb0]; rfl
    · rw [hb1]; rfl
  simp [hcl, hb0, hb1]
  refine ⟨hj, ?_⟩
  refine callm (may_c o n wm (h.at H.mod) hl) (by simp (disch := omega) [wI, wU, tmod_nn, tdiv_nn, env0_0, env0_1, env0_2, env0_3, env0_4, env0_5, -env0_apply, planV]) ?_
  intro w' M'
  replace H := H.same M'
  unfold costP
  have hzero : mayB o ks n wm = false → mayB o ks n wm = true ∧ rightB n wm l = true → False := fun a b => by rw [a] at b; simp at b
  by_cases hmay : mayB o ks n wm = true
  rotate_left
  · simp [hmay]
    refine ifg_r (t := true) (by simp) (fun h => by cases h) (fun _ => ?_)
    simp
    refine ite_r (t := true) (by simp) (fun _ => ?_) (fun h => by cases h)
    simp
    exact H.mod
  simp [hmay]
  refine ifg_r (t := false) (by simp) (fun _ => ?_) (fun h => (h rfl).elim)
  refine callp (right_c n wm (hv.rd.at H.mod) hvl) (by simp) ?_
  by_cases hright : rightB n wm l = true
  rotate_left
  · simp [hright]
    refine ite_r (t := true) (by simp) (fun _ => ?_) (fun h => by cases h)
    simp
    exact H.mod
  simp [hright]
  refine ite_r (t := false) (by simp) (fun h => by cases h) (fun _ => ?_)
  have hb0 := H.blk 0 rfl 0
  rw [hpc] at hb0
  simp at hb0
  simp [hb0]
  refine call_h (sizes_c o n wm) (by simp) ?_
  intro sv w2 H2
  replace H := H.join H2
  have hb1 := H.blk 0 rfl 1
  rw [hpc] at hb1
  simp at hb1
  have hB : szB o n wm = true := by simp [mayB] at hmay; exact hmay.1.1
  have hkl : ks.length = (szS o n wm).length := by simp [mayB] at hmay; exact hmay.1.2
  have hln : (l.length : Int) = n - wm := by simp [rightB] at hright; exact hright.1.2
  obtain ⟨hge, hat, hpos⟩ := sz_fact hB
  have hle := szS_le o n wm
  have srd := H.rd 1 rfl
  obtain ⟨sS, sL⟩ := srd.sl
  generalize szS o n wm = s at *
  simp [sS, sL]
  have h2 := h.at H.mod
  have hv2 := hv.at H.mod
  refine for_r s.length (fun i env' w' => env' 4 = .pointer (some ⟨b, 0, none⟩) ∧ env' 29 = sv ∧ env' 30 = .int .i64 s.length ∧ env' 31 = .int .i64 i ∧ env' 9 = .int .i64 (costTo ks s l i) ∧ Rc G w2 (env' 3) (l.drop (atI s i)).length (intsV (l.drop (atI s i))) ∧ w' = w2) ?_ ?_ ?_
  · simp [sL, costTo, atI]
    exact hv2
  · rintro i env w' hi ⟨e4, e29, e30, e31, e9, hr, rfl⟩
    simp [e30, e31]
    refine ite_r (t := true) (by simp; omega) (fun _ => ?_) (fun h => by cases h)
    simp [wp_blk]
    have hg := srd.gi i hi
    have hp := srd.some (by omega)
    have hg2 := h2.gi i (by omega)
    have hp2 := h2.some (by omega)
    have hmo := atI_mono s (i + 1) s.length hi
    obtain ⟨r1, r2⟩ := pcost_k hv2 (s := s) (i := i) (by omega) hr
    obtain ⟨rS, rL, rC⟩ := hr.sl
    obtain ⟨hg0, hg4⟩ := hge i hi
    have hrl : gi s i ≤ (slL (env 3) : Int) := by
      rw [rL, List.length_drop]
      simp only [atI] at hmo
      omega
    have hrc : gi s i ≤ (slC (env 3) : Int) := by omega
    rw [← rL] at r2
    generalize env 3 = rv at *
    obtain ⟨pS, pL⟩ := r1.rd.sl
    have hcb := costTo_bd ks s l hvl i
    have hpb := pcostI_bd (gi ks i) (partI s l i) (by unfold partI; simp; omega)
    have hrb := rawI_bd (partI s l i) (by unfold partI; simp; omega)
    simp [e4, e29, e31, sS, sL, hi, hg, hp, rS, hg0, hrl, hrc, hb1, hS, hL, hg2, hp2, show i < ks.length by omega]
    have hplen : (partI s l i).length ≤ 1000000 := by unfold partI; simp; omega
    have hw1 : IntKind.i64.wrap ((i : Int) + 1) = ((i + 1 : Nat) : Int) := by rw [wI (by omega) (by omega)]; omega
    have hp31 : pcostI (gi ks i) (partI s l i) = if gi ks i = 31 then rawI (partI s l i) else sumI (gi ks i) (partI s l i) := rfl
    by_cases hk : gi ks i = 31
    · rw [if_pos hk] at hp31
      refine ⟨by omega, ?_⟩
      refine ite_r (t := true) (by simp [hk]) (fun _ => ?_) (fun h => by cases h)
      refine callp (raw_c r1.rd hplen) (by simp) ?_
      rw [← hp31]
      have hw2 : IntKind.i64.wrap (5 + pcostI (gi ks i) (partI s l i)) = 5 + pcostI (gi ks i) (partI s l i) := wI (by omega) (by omega)
      have hw3 : IntKind.i64.wrap (costTo ks s l i + (5 + pcostI (gi ks i) (partI s l i))) = costTo ks s l (i + 1) := wI (by omega) (by omega)
      simp [-Int.natCast_add, hw1, hw2, hw3, e4, e9, e29, e30, e31]
      rw [List.length_drop] at r2
      exact ⟨by omega, r2⟩
    · rw [if_neg hk] at hp31
      refine ⟨by omega, ?_⟩
      refine ite_r (t := false) (by simp [hk]) (fun h => by cases h) (fun _ => ?_)
      simp [e4, hb1, hS, hL, hg2, hp2, show i < ks.length by omega]
      refine callp (sum_c (gi ks i) r1.rd hplen) (by simp) ?_
      rw [← hp31]
      have hw2 : IntKind.i64.wrap (5 + pcostI (gi ks i) (partI s l i)) = 5 + pcostI (gi ks i) (partI s l i) := wI (by omega) (by omega)
      have hw3 : IntKind.i64.wrap (costTo ks s l i + (5 + pcostI (gi ks i) (partI s l i))) = costTo ks s l (i + 1) := wI (by omega) (by omega)
      simp [-Int.natCast_add, hw1, hw2, hw3, e4, e9, e29, e30, e31]
      rw [List.length_drop] at r2
      exact ⟨by omega, r2⟩
  · rintro env w' ⟨e4, e29, e30, e31, e9, hr, rfl⟩
    simp [e30, e31]
    refine ite_r (t := false) (by simp) (fun h => by cases h) (fun _ => ?_)
    simp [e9]
    exact H.mod

set_option maxHeartbeats 2000000 in
theorem cost2_p {G : Nat → Prop} {w : World} {kv v : Value} {ks l : List Int} (o n wm : Int) (h : Rd G w kv ks.length (intsV ks)) (hl : ks.length ≤ 1000000) (hv : Rc G w v l.length (intsV l)) (hvl : l.length ≤ 1000000) : Calls Try.prog 20 [planV o kv, .int .i64 n, .int .i64 wm, v].toArray w (Ret fun r w' => r = .int .i64 (costP o ks n wm l) ∧ Mod none' w w') := by
  refine F_sound c20 (by simp [fc20]) ?_
  obtain ⟨hS, hL⟩ := h.sl
  obtain ⟨vS, vL, vC⟩ := hv.sl
  have h1c : kv.cells = #[kv] := by obtain ⟨cap, hv⟩ := h.is; rw [hv]; rfl
  simp [fc20, s20]
  refine box_h (planV o kv) (Hp.nil w) (by simp) ?_
  intro b w1 H M1
  refine ⟨.inl rfl, ?_⟩
  have hpc : (planV o kv).cells = #[.int .i64 o, kv] := by simp [planV, Value.cells, h1c, putAt]
  have hcl := cells_blk (H.blk 0 rfl) 2 (by rw [hpc]; rfl)
  have hb0 := H.blk 0 rfl 0
  have hb1 := H.blk 0 rfl 1
  rw [hpc] at hb0 hb1 hcl
  simp at hb0 hb1
  have hj : ∀ (j : Nat), j < 2 → (w1.cell? ⟨b, j, none⟩).isSome = true := by
    intro j hj
    obtain rfl | rfl : j = 0 ∨ j = 1 := by omega
    · rw [hb0]; rfl
    · rw [hb1]; rfl
  simp [hcl, hb0, hb1]
  refine ⟨hj, ?_⟩
  refine callm (may2_c o n wm (h.at H.mod) hl) (by simp (disch := omega) [wI, wU, tmod_nn, tdiv_nn, env0_0, env0_1, env0_2, env0_3, env0_4, env0_5, -env0_apply, planV]) ?_
  intro w' M'
  replace H := H.same M'
  unfold costP
  have hB : mayB o ks n wm = true → szB o n wm = true := fun hmay => by simp [mayB] at hmay; exact hmay.1.1
  by_cases hmay : mayB o ks n wm = true
  rotate_left
  · simp [hmay]
    refine ifg_r (t := true) (by simp) (fun h => by cases h) (fun _ => ?_)
    simp
    refine ite_r (t := true) (by simp) (fun _ => ?_) (fun h => by cases h)
    simp
    exact H.mod
  replace hB := hB hmay
  have hr' := rowB_iff.1 (szB_iff.1 hB).1
  have hwn : IntKind.i64.wrap (n - wm) = n - wm := wI (by omega) (by omega)
  simp [hmay, vS, vL, hwn]
  by_cases hln : (l.length : Int) = n - wm
  rotate_left
  · refine ifg_r (t := true) (by simp [hln]) (fun h => by cases h) (fun _ => ?_)
    simp
    refine ⟨fun h => absurd h hln, ?_⟩
    refine ite_r (t := true) (by simp [hln]) (fun _ => ?_) (fun h => by cases h)
    simp [rightB, hln]
    exact H.mod
  refine ifg_r (t := false) (by simp [hln]) (fun _ => ?_) (fun h => (h rfl).elim)
  refine callp (allWide2_c (hv.rd.at H.mod) (by unfold maxLen; omega)) (by simp) ?_
  have hre : rightB n wm l = allW l := by simp [rightB, (szB_iff.1 hB).1, hln]
  rw [hre]
  by_cases hright : allW l = true
  rotate_left
  · simp [hright]
    refine ite_r (t := true) (by simp) (fun _ => ?_) (fun h => by cases h)
    simp
    exact H.mod
  simp [hright]
  refine ite_r (t := false) (by simp [hln]) (fun h => by cases h) (fun _ => ?_)
  have hb0 := H.blk 0 rfl 0
  rw [hpc] at hb0
  simp at hb0
  simp [hb0, hright]
  refine call_h (sizes2_c o n wm) (by simp) ?_
  intro sv w2 H2
  replace H := H.join H2
  have hb1 := H.blk 0 rfl 1
  rw [hpc] at hb1
  simp at hb1
  have hkl : ks.length = (szS o n wm).length := by simp [mayB] at hmay; exact hmay.1.2
  obtain ⟨hge, hat, hpos⟩ := sz_fact hB
  have hle := szS_le o n wm
  have srd := H.rd 1 rfl
  obtain ⟨sS, sL⟩ := srd.sl
  generalize szS o n wm = s at *
  simp
  have h2 := h.at H.mod
  have hv2 := hv.at H.mod
  refine for_r s.length (fun i env' w' => env' 4 = .pointer (some ⟨b, 0, none⟩) ∧ env' 11 = sv ∧ env' 12 = .int .i64 i ∧ env' 9 = .int .i64 (costTo ks s l i) ∧ env' 10 = .int .i64 (atI s i) ∧ env' 3 = v ∧ Mod none' w2 w') ?_ ?_ ?_
  · simp [costTo, atI]
    exact Mod.refl _ _
  · rintro i env w' hi ⟨e4, e11, e12, e9, e10, e3, M⟩
    simp [e11, e12, sS, sL]
    refine ite_r (t := true) (by simp; omega) (fun _ => ?_) (fun h => by cases h)
    simp [wp_blk]
    replace M := M.drew
    replace H := H.same M
    have srd' := srd.at M
    have h2' := h2.at M
    have hv2' := hv2.at M
    have hb1' := H.blk 0 rfl 1
    rw [hpc] at hb1'
    simp at hb1'
    have hg := srd'.gi i hi
    have hp := srd'.some (by omega)
    have hg2 := h2'.gi i (by omega)
    have hp2 := h2'.some (by omega)
    rw [cell_drew] at hg hg2
    have hmo := atI_mono s (i + 1) s.length hi
    obtain ⟨hg0, hg4⟩ := hge i hi
    have ha1 : (atI s (i + 1) : Int) = atI s i + gi s i := by simp only [atI]; omega
    have r1 := hv2'.cuti (atI s i) (atI s (i + 1)) (by omega) (by omega)
    have hpi : (l.take (atI s (i + 1))).drop (atI s i) = partI s l i := by
      rw [List.drop_take, partI]
      simp only [atI]
      rw [Nat.add_sub_cancel_left]
    rw [hpi] at r1
    have hcb := costTo_bd ks s l hvl i
    have hplen : (partI s l i).length ≤ 1000000 := by unfold partI; simp; omega
    have hpb := pcostI_bd (gi ks i) (partI s l i) hplen
    have hw1 : IntKind.i64.wrap ((i : Int) + 1) = ((i + 1 : Nat) : Int) := by rw [wI (by omega) (by omega)]; omega
    have hwa : IntKind.i64.wrap ((atI s i : Int) + gi s i) = (atI s (i + 1) : Int) := by rw [wI (by omega) (by omega)]; omega
    have hw2 : IntKind.i64.wrap (costTo ks s l i + 5) = costTo ks s l i + 5 := wI (by omega) (by omega)
    have hw3 : IntKind.i64.wrap (costTo ks s l i + 5 + pcostI (gi ks i) (partI s l i)) = costTo ks s l (i + 1) := by rw [wI (by omega) (by omega)]; simp only [costTo]; omega
    have hc1 : (atI s (i + 1) : Int) ≤ (slC v : Int) := by omega
    have hc2 : (atI s i : Int) ≤ (atI s (i + 1) : Int) := by omega
    simp [e3, e4, e9, e10, e11, e12, sS, sL, hi, hg, hp, hb1', hS, hL, hg2, hp2, vS, vL, show i < ks.length by omega, hwa, hw2]
    refine ⟨⟨by omega, by omega⟩, ?_⟩
    refine callp (pcost_c (gi ks i) r1.rd hplen) (by simp [e3, e10, hwa]) ?_
    simp [-Int.natCast_add, e3, e4, e9, e10, e11, e12, sS, sL, hi, hg, hp, hwa, hw1, hw2, hw3]
    exact ⟨by omega, M⟩
  · rintro env w' ⟨e4, e11, e12, e9, e10, e3, M⟩
    simp [e11, e12, sS, sL]
    refine ite_r (t := false) (by simp) (fun h => by cases h) (fun _ => ?_)
    simp [e9]
    exact H.mod.tr M

end Go.Proofs.Ytajkofndbeohpaa.VG
