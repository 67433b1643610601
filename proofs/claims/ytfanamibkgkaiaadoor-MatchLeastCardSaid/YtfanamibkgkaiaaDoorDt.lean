/-
  Match: the document's tokens that may be, and what they expand to.
-/
import Derived.Test.YtfanamibkgkaiaaDoorDs
namespace Go.Proofs.YtfanamibkgkaiaaDoor.VG
open Go
set_option linter.unusedSimpArgs false
set_option linter.unusedVariables false
set_option maxRecDepth 20000

theorem exR_some {T : List (Int × Int × Int)} {most : Int} {L : List Int} (hm : mayT T = true) (h : exq T most T.length = some L) : exR T most = (L, true) := by rw [exR, if_neg (by simp [hm]), h]
theorem exR_none {T : List (Int × Int × Int)} {most : Int} (hm : mayT T = true) (h : exq T most T.length = none) : exR T most = ([], false) := by rw [exR, if_neg (by simp [hm]), h]

section
variable {G : Nat → Prop} {w : World} {v : Value} {T : List (Int × Int × Int)}
set_option maxHeartbeats 8000000 in
theorem may2_c (h : Rd G w v T.length (toksV T)) (hl : T.length ≤ 1000000) : Calls Tryd.prog 35 [v].toArray w (Ret fun r w' => r = .bool (mayT T) ∧ Mod none' w w') := by
  refine F_sound c35 (by simp [fc35]) ?_
  obtain ⟨hS, hL⟩ := h.sl
  simp [fc35, s35]
  refine for_r T.length (fun i env' w' => env' 0 = v ∧ env' 3 = .int .i64 i ∧ mayT (T.take i) = true ∧ Mod none' w w') ?_ ?_ ?_
  · simp [mayT, Mod.refl]
  · rintro i env w1 hi ⟨e0, e3, hm, M1⟩
    have wi : IntKind.i64.wrap ((i : Int) + 1) = ((i + 1 : Nat) : Int) := by rw [wI (by omega) (by omega)]; omega
    obtain ⟨t, ht⟩ : ∃ t, T[i]? = some t := ⟨T[i], List.getElem?_eq_getElem hi⟩
    have ta := tok_at (h.at M1) ht
    have tp := tok_ptr h (by omega)
    have hstep := mayT_take hm ht
    obtain ⟨c0, c1, c2⟩ := And.intro ta.c0 (And.intro ta.c1 ta.c2)
    obtain ⟨x, y, z⟩ := t
    simp only [] at c0 c1 c2
    simp [e0, e3, hS, hL]
    refine ite_r (t := true) (by simp; omega) (fun _ => ?_) (fun h => by cases h)
    simp [wp_blk, e0, e3, hS, hL, hi, tp, c0]
    by_cases hx : x = 0
    · refine ite_r (t := true) (by simp [hx]) (fun _ => ?_) (fun h => by cases h)
      simp [e0, e3, hS, hL, hi, tp, c1]
      by_cases hy : y = 0
      · have hlit : litB (x, y, z) = true := by simp [litB, hx, hy]
        refine ite_r (t := false) (by simp [hy]) (fun h => by cases h) (fun _ => ?_)
        simp [-Int.natCast_add, e0, e3, wi]
        exact ⟨by omega, by rw [hstep, hlit]; rfl, M1⟩
      · have hno := mayT_not ht (by simp [litB, copyB, hx, hy])
        refine ite_r (t := true) (by simp [hy]) (fun _ => ?_) (fun h => by cases h)
        simp [hno]
        exact M1
    · refine ite_r (t := false) (by simp [hx]) (fun h => by cases h) (fun _ => ?_)
      have hlit : litB (x, y, z) = false := by simp [litB, hx]
      simp [e0, e3, hS, hL, hi, tp, c0, c1, c2]
      by_cases hc : copyB (x, y, z) = true
      · have hc' : (((3 ≤ x ∧ x ≤ 64) ∧ 1 ≤ y) ∧ y ≤ 1024) ∧ z = 0 := by simpa [copyB] using hc
        refine ite_r (t := false) (by simp; omega) (fun h => by cases h) (fun _ => ?_)
        simp [-Int.natCast_add, e0, e3, wi]
        exact ⟨by omega, by rw [hstep, hc]; simp, M1⟩
      · have hc' : ¬ ((((3 ≤ x ∧ x ≤ 64) ∧ 1 ≤ y) ∧ y ≤ 1024) ∧ z = 0) := fun h => hc (by simpa [copyB] using h)
        have hno := mayT_not ht (by rw [hlit]; simpa using hc)
        refine ite_r (t := true) (by simp; omega) (fun _ => ?_) (fun h => by cases h)
        simp [hno]
        exact M1
  · rintro env w1 ⟨e0, e3, hm, M1⟩
    rw [List.take_length] at hm
    simp [e0, e3, hS, hL]
    refine ite_r (t := false) (by simp) (fun h => by cases h) (fun _ => ?_)
    simp [hm]
    exact M1

set_option maxHeartbeats 16000000 in
theorem expand2_c (h : Rd G w v T.length (toksV T)) (hl : T.length ≤ 1000000) (most : Int) (hmost : most ≤ 900000) (hm0 : 0 ≤ most) :
    Calls Tryd.prog 23 [v, .int .i64 most].toArray w (Ret fun r w' => RowOk w w' r (exR T most)) := by
  refine F_sound c23 (by simp [fc23]) ?_
  obtain ⟨hS, hL⟩ := h.sl
  simp [fc23, s23]
  refine callm (may2_c h hl) (by simp) ?_
  intro w1 M1
  cases hmay : mayT T
  · have hv : exR T most = ([], false) := by rw [exR, if_pos hmay]
    rw [hv]
    simp
    refine ite_r (t := true) (by simp) (fun _ => ?_) (fun h => by cases h)
    simp
    exact ⟨_, rfl, OwnRow.nil M1⟩
  simp
  refine ite_r (t := false) (by simp) (fun h => by cases h) (fun _ => ?_)
  simp
  have H := (Hp.ofMod M1).nilS (e := 3) (size := 1)
  refine for_r T.length (fun i env' w' => env' 0 = v ∧ env' 1 = .int .i64 most ∧ env' 7 = .int .i64 i ∧ ∃ L, exq T most i = some L ∧ (L.length : Int) ≤ most ∧ OwnRow w w' (env' 6) L) ?_ ?_ ?_
  · simp
    exact ⟨[], rfl, by simp; omega, H⟩
  · clear H M1
    rintro i env w2 hi ⟨e0, e1, e7, L, hL', hLm, H⟩
    have wi : IntKind.i64.wrap ((i : Int) + 1) = ((i + 1 : Nat) : Int) := by rw [wI (by omega) (by omega)]; omega
    obtain ⟨t, ht⟩ : ∃ t, T[i]? = some t := ⟨T[i], List.getElem?_eq_getElem hi⟩
    have htm : litB t = true ∨ copyB t = true := by
      rw [mayT, List.all_eq_true] at hmay
      simpa using hmay t (List.mem_of_getElem? ht)
    have ta := tok_at (h.at H.mod) ht
    have tp := tok_ptr h (by omega)
    have hstep : exq T most (i + 1) = if (L.length : Int) < t.2.1 then none else if most < ((growL L t).length : Int) then none else some (growL L t) := by rw [exq, hL', ht]
    obtain ⟨c0, c1, c2⟩ := And.intro ta.c0 (And.intro ta.c1 ta.c2)
    have hgl := growL_len L t
    have hlen : L.length ≤ 900000 := by omega
    have htb : 0 ≤ t.1 ∧ t.1 ≤ 64 ∧ 0 ≤ t.2.1 ∧ t.2.1 ≤ 1024 ∧ (litB t = true → t.1 = 0 ∧ t.2.1 = 0) ∧ (litB t = false → 3 ≤ t.1 ∧ 1 ≤ t.2.1) := by
      rcases htm with h | h
      · have : t.1 = 0 ∧ t.2.1 = 0 := by simpa [litB] using h
        exact ⟨by omega, by omega, by omega, by omega, fun _ => this, fun h' => by rw [h] at h'; cases h'⟩
      · have hh : (((3 ≤ t.1 ∧ t.1 ≤ 64) ∧ 1 ≤ t.2.1) ∧ t.2.1 ≤ 1024) ∧ t.2.2 = 0 := by simpa [copyB] using h
        exact ⟨by omega, by omega, by omega, by omega, (fun h' => by simpa [litB] using h'), fun _ => ⟨by omega, by omega⟩⟩
    obtain ⟨hb1, hb2, hb3, hb4, hb5, hb6⟩ := htb
    have hz1 : (t.1 == 0) = litB t := by
      cases hl : litB t
      · have := (hb6 hl).1
        simp; omega
      · simp [(hb5 hl).1]
    obtain ⟨n, hn⟩ : ∃ n : Nat, t.1 = n := ⟨t.1.toNat, by omega⟩
    obtain ⟨d, hd⟩ : ∃ d : Nat, t.2.1 = d := ⟨t.2.1.toNat, by omega⟩
    obtain ⟨L1, hL1⟩ : ∃ L1, L1 = if litB t = true then L ++ [t.2.2] else L := ⟨_, rfl⟩
    have hg : growL L t = copyN L1 d n := by
      rw [growL, hL1]
      cases hl : litB t
      · simp [hn, hd]
      · have : n = 0 := by have := (hb5 hl).1; omega
        subst this
        simp [copyN]
    have hL1l : L1.length = L.length + (if litB t = true then 1 else 0) := by rw [hL1]; split <;> simp
    have hL1b : L1.length ≤ 900001 := by rw [hL1l]; split <;> omega
    have hdl : ((L1.length : Int) < d ↔ (L.length : Int) < t.2.1) := by
      rw [hL1l, hd]
      cases hl : litB t
      · simp
      · have := (hb5 hl).2
        simp; omega
    unfold OwnRow at H
    generalize hrv : env 6 = rv at *
    simp [e0, e7, hS, hL]
    refine ite_r (t := true) (by simp; omega) (fun _ => ?_) (fun h => by cases h)
    simp [wp_blk, e0, e7, hS, hL, hi, tp, c0, hz1]
    refine ite_cut (fun env' w' => env' 0 = v ∧ env' 1 = .int .i64 most ∧ env' 7 = .int .i64 i ∧ OwnRow w w' (env' 6) L1) (t := litB t) (by simp) ?_ ?_ ?_
    · intro hlit
      rw [hlit] at hL1
      simp only [if_true] at hL1
      simp [e0, e7, hS, hL, hi, tp, c2]
      refine app1_h slTI 0 H rfl (u := .int .i64 t.2.2) (by simp) (by omega) (by unfold maxLen; omega) (by simp) (by simp [hrv]) (by simp) (by simp) ?_
      intro vb v' w5 w6 H
      refine ⟨.inl rfl, ?_⟩
      simp only [List.set_cons_zero] at H
      rw [intsV_snoc, ← hL1] at H
      simp [e0, e1, e7]
      unfold OwnRow
      rw [hL1] at H ⊢
      simpa using H
    · intro hlit
      rw [hlit] at hL1
      simp only [Bool.false_eq_true, if_false] at hL1
      simp [e0, e1, e7, hrv]
      rw [hL1]
      exact H
    clear H e0 e1 e7 hrv
    rintro env w3 ⟨e0, e1, e7, H⟩
    have ta := tok_at (h.at H.mod) ht
    obtain ⟨c0, c1, c2⟩ := And.intro ta.c0 (And.intro ta.c1 ta.c2)
    rw [hn] at c0
    rw [hd] at c1
    obtain ⟨rS, rL⟩ := (H.rd 0 rfl).sl
    simp [e0, e7, hS, hL, hi, tp, c1, rS, rL]
    by_cases hbad : (L1.length : Int) < d
    · rw [if_pos (hdl.1 hbad)] at hstep
      refine ite_r (t := true) (by simp; omega) (fun _ => ?_) (fun h => by cases h)
      simp
      rw [exR_none hmay (exq_none hstep T.length (by omega))]
      exact ⟨_, rfl, OwnRow.nil H.mod⟩
    rw [if_neg (fun h => hbad (hdl.2 h))] at hstep
    have hdL : d ≤ L1.length := by omega
    refine ite_r (t := false) (by simp; omega) (fun h => by cases h) (fun _ => ?_)
    simp
    refine for_r n (fun j env' w' => env' 0 = v ∧ env' 1 = .int .i64 most ∧ env' 7 = .int .i64 i ∧ env' 8 = .int .i64 j ∧ OwnRow w w' (env' 6) (copyN L1 d j)) ?_ ?_ ?_
    · simp [e0, e1, e7, copyN]
      exact H
    · clear H e0 e1 e7 ta c0 c1 c2 rS rL
      rintro j env w4 hj ⟨e0, e1, e7, e8, H⟩
      have wj : IntKind.i64.wrap ((j : Int) + 1) = ((j + 1 : Nat) : Int) := by rw [wI (by omega) (by omega)]; omega
      have ta := tok_at (h.at H.mod) ht
      obtain ⟨c0, c1, c2⟩ := And.intro ta.c0 (And.intro ta.c1 ta.c2)
      rw [hn] at c0
      rw [hd] at c1
      have hcl := copyN_len L1 d j
      have hd1 : 1 ≤ d := by
        cases hl : litB t
        · have := (hb6 hl).2; omega
        · have := (hb5 hl).1; omega
      obtain ⟨z, hz⟩ : ∃ z, z = L1.length + j - d := ⟨_, rfl⟩
      have wz : IntKind.i64.wrap (((copyN L1 d j).length : Int) - d) = (z : Int) := by rw [wI (by omega) (by omega)]; omega
      have hzl : z < (copyN L1 d j).length := by omega
      have hstepN : copyN L1 d (j + 1) = copyN L1 d j ++ [gi (copyN L1 d j) z] := by rw [copyN, hcl, hz]
      obtain ⟨rS, rL⟩ := (H.rd 0 rfl).sl
      have rp := (H.rd 0 rfl).some (by omega)
      have rc := (H.rd 0 rfl).gi z hzl
      unfold OwnRow at H
      generalize hrv : env 6 = rv at *
      simp [e0, e7, e8, hS, hL, hi, tp, c0]
      refine ite_r (t := true) (by simp; omega) (fun _ => ?_) (fun h => by cases h)
      simp [wp_blk, e0, e7, hrv, hS, hL, hi, tp, c1, rS, rL, wz, hzl, rp, rc]
      refine app1_h slTI 0 H rfl (u := .int .i64 (gi (copyN L1 d j) z)) (by simp) (by omega) (by unfold maxLen; omega) (by simp) (by simp [hrv]) (by simp) (by simp) ?_
      intro vb v' w5 w6 H
      refine ⟨.inl rfl, ?_⟩
      simp only [List.set_cons_zero] at H
      rw [intsV_snoc, ← hstepN] at H
      simp [-Int.natCast_add, e0, e1, e7, e8, wj]
      refine ⟨by omega, ?_⟩
      unfold OwnRow
      rw [hstepN] at H ⊢
      simpa using H
    · clear H e0 e1 e7 ta c0 c1 c2 rS rL
      rintro env w4 ⟨e0, e1, e7, e8, H⟩
      have ta := tok_at (h.at H.mod) ht
      obtain ⟨c0, c1, c2⟩ := And.intro ta.c0 (And.intro ta.c1 ta.c2)
      rw [hn] at c0
      rw [← hg] at H
      obtain ⟨rS, rL⟩ := (H.rd 0 rfl).sl
      simp [e0, e7, e8, hS, hL, hi, tp, c0]
      refine ite_r (t := false) (by simp) (fun h => by cases h) (fun _ => ?_)
      simp [e1, rS, rL]
      by_cases hbig : most < ((growL L t).length : Int)
      · rw [if_pos hbig] at hstep
        refine ite_r (t := true) (by simp [hbig]) (fun _ => ?_) (fun h => by cases h)
        simp
        rw [exR_none hmay (exq_none hstep T.length (by omega))]
        exact ⟨_, rfl, OwnRow.nil H.mod⟩
      · rw [if_neg hbig] at hstep
        refine ite_r (t := false) (by simp; omega) (fun h => by cases h) (fun _ => ?_)
        simp [-Int.natCast_add, e0, e1, e7, wi]
        exact ⟨by omega, growL L t, hstep, by omega, H⟩
  · clear H M1
    rintro env w2 ⟨e0, e1, e7, L, hL', hLm, H⟩
    rw [exR_some hmay hL']
    obtain ⟨rS, rL⟩ := (H.rd 0 rfl).sl
    simp [e0, e7, hS, hL]
    refine ite_r (t := false) (by simp) (fun h => by cases h) (fun _ => ?_)
    simp [e1, rS, rL, hLm]
    exact ⟨_, rfl, H⟩
end

end Go.Proofs.YtfanamibkgkaiaaDoor.VG
