/-
  Parts: rows, sizes, plans.
-/
import Derived.Test.YtajkofndbeohpaaPa
namespace Go.Proofs.Ytajkofndbeohpaa.VG
open Go
set_option linter.unusedSimpArgs false
set_option linter.unusedVariables false

def rowB (n wm : Int) : Bool := decide (1 ≤ n) && decide (n ≤ 4096) && decide (0 ≤ wm) && decide (wm ≤ n)
theorem rowB_iff {n wm : Int} : rowB n wm = true ↔ (1 ≤ n ∧ n ≤ 4096) ∧ 0 ≤ wm ∧ wm ≤ n := by simp [rowB, and_assoc]
def pw (o : Int) : Int := ((2 ^ o.toNat : Nat) : Int)
def szB (o n wm : Int) : Bool := rowB n wm && decide (0 ≤ o) && decide (o ≤ 8) && decide (n % pw o = 0) && decide (wm ≤ n / pw o)
def szS (o n wm : Int) : List Int := if szB o n wm = true then (n / pw o - wm) :: List.replicate (2 ^ o.toNat - 1) (n / pw o) else []
theorem szB_iff {o n wm : Int} : szB o n wm = true ↔ rowB n wm = true ∧ (0 ≤ o ∧ o ≤ 8) ∧ n % pw o = 0 ∧ wm ≤ n / pw o := by simp [szB, and_assoc]
theorem pw_bd {o : Int} (h : o ≤ 8) : 2 ^ o.toNat ≤ 256 ∧ 0 < 2 ^ o.toNat := by
  have : 2 ^ o.toNat ≤ 2 ^ 8 := Nat.pow_le_pow_right (by omega) (by omega)
  exact ⟨by omega, Nat.two_pow_pos _⟩
theorem szS_len (o n wm : Int) : (szS o n wm).length = if szB o n wm = true then 2 ^ o.toNat else 0 := by
  have := Nat.two_pow_pos o.toNat
  unfold szS
  split
  · simp; omega
  · rfl
theorem szS_le (o n wm : Int) : (szS o n wm).length ≤ 256 := by
  rw [szS_len]
  split
  · rename_i h
    exact (pw_bd (szB_iff.1 h).2.1.2).1
  · omega
theorem szS_nil {o n wm : Int} : szS o n wm = [] ↔ szB o n wm = false := by
  unfold szS
  split
  · rename_i h; simp [h]
  · rename_i h; simpa using h

theorem prow_c {w : World} (n wm : Int) : Calls Try.prog 42 [.int .i64 n, .int .i64 wm].toArray w (Ret fun r w' => r = .bool (rowB n wm) ∧ w' = w) := by
  refine F_sound c42 (by simp [fc42]) ?_
  simp [fc42, s42, rowB]
theorem prow2_c {w : World} (n wm : Int) : Calls Try.prog 43 [.int .i64 n, .int .i64 wm].toArray w (Ret fun r w' => r = .bool (rowB n wm) ∧ w' = w) := by
  refine F_sound c43 (by simp [fc43]) ?_
  simp [fc43, s43, rowB]

/-- A row of one's own, made by a call. -/
def RowOwn (w w' : World) (r : Value) (s : List Int) : Prop := Hp w w' [.own 3 1 r s.length (intsV s)]

theorem cut_iff (n P : Int) : n / P * P = n ↔ n % P = 0 := by
  have := Int.mul_ediv_add_emod n P
  rw [Int.mul_comm]
  generalize P * (n / P) = t at *
  omega
theorem div_bd {n P : Int} (h : 0 ≤ n) (hP : 1 ≤ P) : 0 ≤ n / P ∧ n / P ≤ n := ⟨Int.ediv_nonneg h (by omega), Int.ediv_le_self _ h⟩

set_option maxHeartbeats 1000000 in
theorem sizes_c {w : World} (o n wm : Int) : Calls Try.prog 15 [.int .i64 o, .int .i64 n, .int .i64 wm].toArray w (Ret fun r w' => RowOwn w w' r (szS o n wm)) := by
  refine F_sound c15 (by simp [fc15]) ?_
  simp [fc15, s15]
  refine callp (prow_c n wm) (by simp) ?_
  have hbad : szB o n wm = false → RowOwn w w (.slice none 0 0) (szS o n wm) := fun h => by rw [szS_nil.2 h]; exact (Hp.nil w).nilS
  have hno : szB o n wm = true → rowB n wm = true ∧ (0 ≤ o ∧ o ≤ 8) ∧ n % pw o = 0 ∧ wm ≤ n / pw o := szB_iff.1
  have hB : ∀ b : Bool, b = true ∨ b = false := fun b => by cases b <;> simp
  by_cases h1 : rowB n wm = true ∧ 0 ≤ o ∧ o ≤ 8
  rotate_left
  · simp
    refine ite_r (t := true) (by simp; rcases hB (rowB n wm) with h | h <;> simp [h] at h1 ⊢; omega) (fun _ => ?_) (fun h => by cases h)
    simp
    refine hbad ?_
    rcases hB (szB o n wm) with h | h
    · obtain ⟨a, b, _⟩ := hno h; exact absurd ⟨a, b⟩ h1
    · exact h
  obtain ⟨hr, ho0, ho8⟩ := h1
  have hr' := rowB_iff.1 hr
  simp
  refine ite_r (t := false) (by simp [hr]; omega) (fun h => by cases h) (fun _ => ?_)
  obtain ⟨O, rfl⟩ : ∃ O : Nat, o = O := ⟨o.toNat, by omega⟩
  have hpw := pw_bd ho8
  obtain ⟨_, s2, _, _⟩ := shl_pm O (by omega)
  have hsh : shr .i64 n (O : Int) = n / pw O := shr_int _ _ _ (by simp only [IntKind.bits]; omega)
  have hshl := shl_int .i64 (n / pw O) O (by simp only [IntKind.bits]; omega)
  have hszl : szB (O : Int) n wm = true → szS (O : Int) n wm = (n / pw O - wm) :: List.replicate (2 ^ O - 1) (n / pw O) := fun h => by rw [szS, if_pos h]; rfl
  have hszi : szB (O : Int) n wm = true ↔ n % pw O = 0 ∧ wm ≤ n / pw O := by rw [szB_iff]; exact ⟨fun h => h.2.2, fun h => ⟨hr, ⟨ho0, ho8⟩, h⟩⟩
  have hP : pw (O : Int) = ((2 ^ O : Nat) : Int) := rfl
  rw [Int.toNat_natCast] at hpw
  rw [← hP] at hshl s2
  have hci := cut_iff n (pw O)
  have hdb := div_bd (n := n) (P := pw O) (by omega) (by omega)
  have hmul : n / pw O * pw O ≤ n ∧ 0 ≤ n / pw O * pw O := by
    have h1 := Int.mul_ediv_add_emod n (pw O)
    have h2 := Int.emod_nonneg n (show pw (O : Int) ≠ 0 by omega)
    have h3 := Int.mul_nonneg hdb.1 (show 0 ≤ pw (O : Int) by omega)
    rw [Int.mul_comm] at h1
    omega
  have hw1 := @wI (n / pw O * pw O) (by omega) (by omega)
  rw [hw1] at hshl
  generalize 2 ^ O = P at *
  generalize pw (O : Int) = Pi at *
  subst hP
  generalize hq : n / (P : Int) = q at *
  simp [hsh, hshl]
  by_cases h2 : szB (O : Int) n wm = true
  rotate_left
  · have h2' := h2
    rw [hszi] at h2'
    refine ite_r (t := true) (by simp [hci]; omega) (fun _ => ?_) (fun h => by cases h)
    simp
    exact hbad (by simpa using h2)
  obtain ⟨h3, h4⟩ := hszi.1 h2
  refine ite_r (t := false) (by simp [hci, h3]; omega) (fun h => by cases h) (fun _ => ?_)
  have hw2 : IntKind.i64.wrap (q - wm) = q - wm := wI (by omega) (by omega)
  simp [hw2]
  refine bs_h slTI [.int .i64 (q - wm)] (Hp.nil w) rfl (by decide) (by simp [hw2]) (by simp [Value.cells]) ?_
  intro v1 w1 H M1
  refine ⟨.inl rfl, ?_⟩
  simp
  refine for_r (P - 1) (fun i env' w' => env' 0 = .int .i64 O ∧ env' 7 = .int .i64 q ∧ Hp w w' [.own 3 1 (env' 8) (i + 1) (intsV ((q - wm) :: List.replicate i q))]) ?_ ?_ ?_
  · simp
    simpa [intsV, Value.cells] using H
  · rintro i env w' hi ⟨e0, e7, H⟩
    obtain ⟨hS, hL⟩ := (H.rd 0 rfl).sl
    simp [e0, hS, hL, s2]
    refine ite_r (t := true) (by simp; omega) (fun _ => ?_) (fun h => by cases h)
    simp [wp_blk]
    refine app1_h slTI 0 H rfl (u := .int .i64 q) (by simp) (by omega) (by unfold maxLen; omega) (by simp [e7]) (by simp) (by simp) (by simp) ?_
    intro vb v' w2 w3 H
    refine ⟨.inl rfl, ?_⟩
    simp [e0, e7]
    rw [intsV_snoc] at H
    have e : (q - wm) :: List.replicate i q ++ [q] = (q - wm) :: List.replicate (i + 1) q := by rw [List.replicate_succ']; rfl
    rw [e] at H
    exact H
  · rintro env w' ⟨e0, e7, H⟩
    obtain ⟨hS, hL⟩ := (H.rd 0 rfl).sl
    simp [e0, hS, hL, s2]
    refine ite_r (t := false) (by simp; omega) (fun h => by cases h) (fun _ => ?_)
    simp
    unfold RowOwn
    rw [hszl h2]
    simpa using H

set_option maxHeartbeats 1000000 in
theorem sizes2_c {w : World} (o n wm : Int) : Calls Try.prog 16 [.int .i64 o, .int .i64 n, .int .i64 wm].toArray w (Ret fun r w' => RowOwn w w' r (szS o n wm)) := by
  refine F_sound c16 (by simp [fc16]) ?_
  simp [fc16, s16]
  refine callp (prow2_c n wm) (by simp) ?_
  have hbad : szB o n wm = false → RowOwn w w (.slice none 0 0) (szS o n wm) := fun h => by rw [szS_nil.2 h]; exact (Hp.nil w).nilS
  have hno : szB o n wm = true → rowB n wm = true ∧ (0 ≤ o ∧ o ≤ 8) ∧ n % pw o = 0 ∧ wm ≤ n / pw o := szB_iff.1
  have hB : ∀ b : Bool, b = true ∨ b = false := fun b => by cases b <;> simp
  by_cases h1 : rowB n wm = true ∧ 0 ≤ o ∧ o ≤ 8
  rotate_left
  · have h1' : (rowB n wm = false ∨ o < 0) ∨ 8 < o := by
      rcases hB (rowB n wm) with h | h
      · simp [h] at h1 ⊢; omega
      · simp [h]
    have hc : ∀ {Q : Prop}, rowB n wm = true → 0 ≤ o → o ≤ 8 → Q := fun a b c => absurd ⟨a, b, c⟩ h1
    simp
    refine ⟨fun a b c => hc a b c, fun a b c => hc a b c, fun a b c _ => hc a b c, ?_⟩
    refine ite_r (t := true) (by rcases h1' with (h | h) | h <;> simp [h]) (fun _ => ?_) (fun h => by cases h)
    simp
    refine hbad ?_
    rcases hB (szB o n wm) with h | h
    · obtain ⟨a, b, _⟩ := hno h; exact absurd ⟨a, b⟩ h1
    · exact h
  obtain ⟨hr, ho0, ho8⟩ := h1
  have hr' := rowB_iff.1 hr
  obtain ⟨O, rfl⟩ : ∃ O : Nat, o = O := ⟨o.toNat, by omega⟩
  have hpw := pw_bd ho8
  obtain ⟨_, s2, _, _⟩ := shl_pm O (by omega)
  have hsh : shr .i64 n (O : Int) = n / pw O := shr_int _ _ _ (by simp only [IntKind.bits]; omega)
  have hszl : szB (O : Int) n wm = true → szS (O : Int) n wm = (n / pw O - wm) :: List.replicate (2 ^ O - 1) (n / pw O) := fun h => by rw [szS, if_pos h]; rfl
  have hszi : szB (O : Int) n wm = true ↔ n % pw O = 0 ∧ wm ≤ n / pw O := by rw [szB_iff]; exact ⟨fun h => h.2.2, fun h => ⟨hr, ⟨ho0, ho8⟩, h⟩⟩
  have hP : pw (O : Int) = ((2 ^ O : Nat) : Int) := rfl
  rw [Int.toNat_natCast] at hpw
  rw [← hP] at s2
  have hdb := div_bd (n := n) (P := pw O) (by omega) (by omega)
  have htm : n.tmod (pw (O : Int)) = n % pw O := Int.tmod_eq_emod_of_nonneg (by omega)
  have hwO : IntKind.u64.wrap (O : Int) = O := wU (by omega) (by omega)
  generalize 2 ^ O = P at *
  generalize pw (O : Int) = Pi at *
  subst hP
  generalize hq : n / (P : Int) = q at *
  have hr1 : rowB n wm = true := hr
  simp [hsh, hwO, s2, htm, hr1]
  refine ⟨fun _ => by omega, ?_⟩
  by_cases h2 : szB (O : Int) n wm = true
  rotate_left
  · have h2' := h2
    rw [hszi] at h2'
    refine ite_r (t := true) (by simp; omega) (fun _ => ?_) (fun h => by cases h)
    simp
    exact hbad (by simpa using h2)
  obtain ⟨h3, h4⟩ := hszi.1 h2
  refine ite_r (t := false) (by simp [h3]; omega) (fun h => by cases h) (fun _ => ?_)
  simp
  refine for_r P (fun i env' w' => env' 0 = .int .i64 O ∧ env' 1 = .int .i64 n ∧ env' 2 = .int .i64 wm ∧ env' 8 = .int .i64 i ∧ Hp w w' [.own 3 1 (env' 7) i (intsV (List.replicate i q))]) ?_ ?_ ?_
  · simp
    exact (Hp.nil w).nilS
  · rintro i env w' hi ⟨e0, e1, e2, e8, H⟩
    simp [e0, e8, hwO, s2]
    refine ite_r (t := true) (by simp; omega) (fun _ => ?_) (fun h => by cases h)
    simp [wp_blk, e0, e1, hwO, hsh]
    refine app1_h slTI 0 H rfl (u := .int .i64 q) (by simp) (by omega) (by unfold maxLen; omega) (by simp [e0, e1, hwO, hsh]) (by simp) (by simp) (by simp) ?_
    intro vb v' w2 w3 H
    refine ⟨.inl rfl, ?_⟩
    have hw1 : IntKind.i64.wrap ((i : Int) + 1) = ((i + 1 : Nat) : Int) := by rw [wI (by omega) (by omega)]; omega
    simp [-Int.natCast_add, hw1, e0, e1, e2, e8]
    rw [intsV_snoc, ← List.replicate_succ'] at H
    exact ⟨by omega, H⟩
  · rintro env w' ⟨e0, e1, e2, e8, H⟩
    simp [e0, e8, hwO, s2]
    refine ite_r (t := false) (by simp) (fun h => by cases h) (fun _ => ?_)
    have hrd := H.rd 0 rfl
    obtain ⟨hS, hL⟩ := hrd.sl
    have hg := hrd.gi 0 (by simp; omega)
    have hp := hrd.some (by simp; omega)
    have hg0 : gi (List.replicate P q) 0 = q := by rw [gi_get _ _ (by simp; omega)]; simp
    rw [hg0, add_zero] at hg
    have hw2 : IntKind.i64.wrap (q - wm) = q - wm := wI (by omega) (by omega)
    simp [hS, hL, hp, hg, e2, hw2, hpw.2]
    refine set_h 0 H rfl (i := 0) (u := .int .i64 (q - wm)) (by omega) (by simp [hS, hL, hp, add_zero]) (by simp [e2, hw2]) (by simp) ?_
    intro w2 H
    refine ⟨.inl rfl, ?_⟩
    simp
    unfold RowOwn
    rw [hszl h2]
    have e : (List.replicate P q).set 0 (q - wm) = (q - wm) :: List.replicate (P - 1) q := by
      obtain ⟨R, rfl⟩ : ∃ R, P = R + 1 := ⟨P - 1, by omega⟩
      rw [List.replicate_succ]; simp
    have e2 : (intsV (List.replicate P q)).set 0 (.int .i64 (q - wm)) = intsV ((q - wm) :: List.replicate (P - 1) q) := by rw [← e]; simp [intsV, List.map_set]
    rw [e2] at H
    have e3 : ((q - wm) :: List.replicate (P - 1) q).length = P := by simp; omega
    rw [e3]
    exact H

end Go.Proofs.Ytajkofndbeohpaa.VG
