/-
  Parts: may a plan be; costs of one part.
-/
import Derived.Test.YtajkofndbeohpaaPb
namespace Go.Proofs.Ytajkofndbeohpaa.VG
open Go
set_option linter.unusedSimpArgs false
set_option linter.unusedVariables false

def okK (k : Int) : Bool := paramB k || decide (k = 31)
def mayB (o : Int) (ks : List Int) (n wm : Int) : Bool := szB o n wm && decide (ks.length = (szS o n wm).length) && ks.all okK
def rightB (n wm : Int) (l : List Int) : Bool := rowB n wm && decide ((l.length : Int) = n - wm) && allW l
theorem all_take {f : Int → Bool} {l : List Int} {i : Nat} (h : (l.take i).all f = true) (hi : i < l.length) : (l.take (i + 1)).all f = f (gi l i) := by
  rw [gi_take_snoc l i hi, List.all_append, h]; simp
theorem all_not {f : Int → Bool} {l : List Int} {i : Nat} (hi : i < l.length) (h : f (gi l i) = false) : l.all f = false := by
  rw [List.all_eq_false]
  exact ⟨_, gi_mem l i hi, by simp [h]⟩

/-- A plan, as it is handed on. -/
def planV (o : Int) (kv : Value) : Value := .agg #[.int .i64 o, kv]

set_option maxHeartbeats 1000000 in
theorem may_c {G : Nat → Prop} {w : World} {kv : Value} {ks : List Int} (o n wm : Int) (h : Rd G w kv ks.length (intsV ks)) (hl : ks.length ≤ 1000000) : Calls Try.prog 17 [planV o kv, .int .i64 n, .int .i64 wm].toArray w (Ret fun r w' => r = .bool (mayB o ks n wm) ∧ Mod none' w w') := by
  refine F_sound c17 (by simp [fc17]) ?_
  obtain ⟨hS, hL⟩ := h.sl
  have h1c : kv.cells = #[kv] := by obtain ⟨cap, hv⟩ := h.is; rw [hv]; rfl
  simp [fc17, s17]
  refine box_h (planV o kv) (Hp.nil w) (by simp) ?_
  intro b w1 H M1
  refine ⟨.inl rfl, ?_⟩
  have hb0 := H.blk 0 rfl 0
  have hb1 := H.blk 0 rfl 1
  simp [planV, Value.cells, h1c] at hb0 hb1
  simp [hb0]
  refine call_h (sizes_c o n wm) (by simp) ?_
  intro sv w2 H2
  have hb1 := (H.join H2).blk 0 rfl 1
  simp [planV, Value.cells, h1c] at hb1
  replace H := H.join H2
  obtain ⟨sS, sL⟩ := (H.rd 1 rfl).sl
  simp [sS, sL, hb1, hS, hL]
  have hle := szS_le o n wm
  have hnil := @szS_nil o n wm
  have hlz : (szS o n wm).length = 0 ↔ szB o n wm = false := by rw [← hnil]; exact List.length_eq_zero_iff
  unfold mayB
  generalize szS o n wm = s at *
  by_cases hbad : s.length = 0 ∨ ¬ ks.length = s.length
  · refine ite_r (t := true) (by simp; rw [← List.length_eq_zero_iff]; omega) (fun _ => ?_) (fun h => by cases h)
    simp
    refine ⟨?_, H.mod⟩
    rcases hbad with h | h
    · simp [hlz.1 h]
    · simp [h]
  have hB : szB o n wm = true := by
    rcases Bool.eq_false_or_eq_true (szB o n wm) with h | h
    · exact h
    · exact absurd (hlz.2 h) (by omega)
  refine ite_r (t := false) (by simp; rw [← List.length_eq_zero_iff]; omega) (fun h => by cases h) (fun _ => ?_)
  simp [hb1, hS, hL, hB, show ks.length = s.length by omega]
  have h2 := h.at H.mod
  refine for_r ks.length (fun i env' w' => env' 27 = kv ∧ env' 28 = .int .i64 ks.length ∧ env' 29 = .int .i64 i ∧ (ks.take i).all okK = true ∧ w' = w2) ?_ ?_ ?_
  · simp [hb1, hS, hL]
    omega
  · rintro i env w' hi ⟨e27, e28, e29, hall, rfl⟩
    simp [e28, e29]
    refine ite_r (t := true) (by simp; omega) (fun _ => ?_) (fun h => by cases h)
    simp [wp_blk]
    have hg := h2.gi i hi
    have hp := h2.some (by omega)
    simp [e27, e29, hS, hL, hi, hg, hp]
    have hat := all_take hall hi
    have hno := @all_not okK ks i hi
    have hok : okK (gi ks i) = !((decide (gi ks i < 0) || decide (25 < gi ks i)) && decide (gi ks i ≠ 31)) := by
      rw [Bool.eq_iff_iff]; simp [okK, paramB]
    generalize gi ks i = x at *
    by_cases hx : (x < 0 ∨ 25 < x) ∧ x ≠ 31
    · refine ite_r (t := true) (by simp; omega) (fun _ => ?_) (fun h => by cases h)
      simp
      refine ⟨?_, H.mod⟩
      have := hno (by rw [hok]; simp; omega)
      simpa using this
    · refine ite_r (t := false) (by simp; omega) (fun h => by cases h) (fun _ => ?_)
      have hw1 : IntKind.i64.wrap ((i : Int) + 1) = ((i + 1 : Nat) : Int) := by rw [wI (by omega) (by omega)]; omega
      simp [-Int.natCast_add, hw1, e27, e28, e29]
      rw [← List.all_eq_true, hat, hok]
      simp
      omega
  · rintro env w' ⟨e27, e28, e29, hall, rfl⟩
    simp [e28, e29]
    refine ite_r (t := false) (by simp) (fun h => by cases h) (fun _ => ?_)
    simp
    rw [List.take_length] at hall
    refine ⟨?_, H.mod⟩
    simpa using hall

set_option maxHeartbeats 1000000 in
theorem may2_c {G : Nat → Prop} {w : World} {kv : Value} {ks : List Int} (o n wm : Int) (h : Rd G w kv ks.length (intsV ks)) (hl : ks.length ≤ 1000000) : Calls Try.prog 18 [planV o kv, .int .i64 n, .int .i64 wm].toArray w (Ret fun r w' => r = .bool (mayB o ks n wm) ∧ Mod none' w w') := by
  refine F_sound c18 (by simp [fc18]) ?_
  obtain ⟨hS, hL⟩ := h.sl
  have h1c : kv.cells = #[kv] := by obtain ⟨cap, hv⟩ := h.is; rw [hv]; rfl
  simp [fc18, s18]
  refine box_h (planV o kv) (Hp.nil w) (by simp) ?_
  intro b w1 H M1
  refine ⟨.inl rfl, ?_⟩
  have hb0 := H.blk 0 rfl 0
  simp [planV, Value.cells, h1c] at hb0
  simp [hb0]
  refine call_h (sizes2_c o n wm) (by simp) ?_
  intro sv w2 H2
  have hb1 := (H.join H2).blk 0 rfl 1
  simp [planV, Value.cells, h1c] at hb1
  replace H := H.join H2
  obtain ⟨sS, sL⟩ := (H.rd 1 rfl).sl
  simp [sS, sL, hb1, hS, hL]
  have hle := szS_le o n wm
  have hnil := @szS_nil o n wm
  have hlz : (szS o n wm).length = 0 ↔ szB o n wm = false := by rw [← hnil]; exact List.length_eq_zero_iff
  unfold mayB
  generalize szS o n wm = s at *
  by_cases hbad : s.length = 0 ∨ ¬ ks.length = s.length
  · refine ite_r (t := true) (by simp; rw [← List.length_eq_zero_iff]; omega) (fun _ => ?_) (fun h => by cases h)
    simp
    refine ⟨?_, H.mod⟩
    rcases hbad with h | h
    · simp [hlz.1 h]
    · simp [h]
  have hB : szB o n wm = true := by
    rcases Bool.eq_false_or_eq_true (szB o n wm) with h | h
    · exact h
    · exact absurd (hlz.2 h) (by omega)
  refine ite_r (t := false) (by simp; rw [← List.length_eq_zero_iff]; omega) (fun h => by cases h) (fun _ => ?_)
  simp [hB, show ks.length = s.length by omega]
  have h2 := h.at H.mod
  refine for_r ks.length (fun i env' w' => env' 3 = .pointer (some ⟨b, 0, none⟩) ∧ env' 8 = .int .i64 i ∧ (ks.take i).all okK = true ∧ w' = w2) ?_ ?_ ?_
  · simp
  · rintro i env w' hi ⟨e3, e8, hall, rfl⟩
    simp [e3, e8, hb1, hS, hL]
    refine ite_r (t := true) (by simp; omega) (fun _ => ?_) (fun h => by cases h)
    simp [wp_blk]
    have hg := h2.gi i hi
    have hp := h2.some (by omega)
    simp [e3, e8, hb1, hS, hL, hi, hg, hp]
    have hat := all_take hall hi
    have hno := @all_not okK ks i hi
    generalize gi ks i = x at *
    refine callp (rparam2_c x) (by simp) ?_
    have hw1 : IntKind.i64.wrap ((i : Int) + 1) = ((i + 1 : Nat) : Int) := by rw [wI (by omega) (by omega)]; omega
    by_cases hp1 : paramB x = true
    · simp [hp1]
      refine ite_r (t := false) (by simp [hp1]) (fun h => by cases h) (fun _ => ?_)
      simp [-Int.natCast_add, hw1, e3, e8]
      rw [← List.all_eq_true, hat]
      simp [okK, hp1]
    · simp [hp1, e3, e8, hb1, hS, hL, hi, hg, hp]
      by_cases hx : x = 31
      · refine ite_r (t := false) (by simp [hx]) (fun h => by cases h) (fun _ => ?_)
        simp [-Int.natCast_add, hw1, e3, e8]
        rw [← List.all_eq_true, hat]
        simp [okK, hx]
      · refine ite_r (t := true) (by simp [hx]) (fun _ => ?_) (fun h => by cases h)
        simp
        refine ⟨?_, H.mod⟩
        have := hno (by simp [okK, hp1, hx])
        simpa using this
  · rintro env w' ⟨e3, e8, hall, rfl⟩
    simp [e3, e8, hb1, hS, hL]
    refine ite_r (t := false) (by simp) (fun h => by cases h) (fun _ => ?_)
    simp
    rw [List.take_length] at hall
    refine ⟨?_, H.mod⟩
    simpa using hall

set_option maxHeartbeats 1000000 in
theorem right_c {G : Nat → Prop} {w : World} {v : Value} {l : List Int} (n wm : Int) (h : Rd G w v l.length (intsV l)) (hl : l.length ≤ 1000000) : Calls Try.prog 45 [.int .i64 n, .int .i64 wm, v].toArray w (Ret fun r w' => r = .bool (rightB n wm l) ∧ w' = w) := by
  refine F_sound c45 (by simp [fc45]) ?_
  obtain ⟨hS, hL⟩ := h.sl
  simp [fc45, s45]
  refine callp (prow_c n wm) (by simp) ?_
  unfold rightB
  by_cases hr : rowB n wm = true
  rotate_left
  · simp [hr, hS, hL]
    refine ite_r (t := true) (by simp [hr]) (fun _ => ?_) (fun h => by cases h)
    simp
  have hr' := rowB_iff.1 hr
  have hw1 : IntKind.i64.wrap (n - wm) = n - wm := wI (by omega) (by omega)
  simp [hr, hS, hL, hw1]
  by_cases hn : (l.length : Int) = n - wm
  rotate_left
  · refine ite_r (t := true) (by simp [hn]) (fun _ => ?_) (fun h => by cases h)
    simp [hn]
  refine ite_r (t := false) (by simp [hn]) (fun h => by cases h) (fun _ => ?_)
  simp [hS, hL, hn]
  rw [← hn]
  refine for_r l.length (fun i env' w' => env' 21 = v ∧ env' 22 = .int .i64 l.length ∧ env' 23 = .int .i64 i ∧ allW (l.take i) = true ∧ w' = w) ?_ ?_ ?_
  · simp [allW, hL, hn]
  · rintro i env w' hi ⟨e21, e22, e23, hall, rfl⟩
    simp [e22, e23]
    refine ite_r (t := true) (by simp; omega) (fun _ => ?_) (fun h => by cases h)
    simp [wp_blk]
    have hg := h.gi i hi
    have hp := h.some (by omega)
    simp [e21, e23, hS, hL, hi, hg, hp]
    have hat := allW_take hall hi
    have hno := @allW_not l i hi
    generalize gi l i = x at *
    by_cases hx : wideB x = true
    · have hx' := wideB_iff.1 hx
      refine ite_r (t := false) (by simp; omega) (fun h => by cases h) (fun _ => ?_)
      have hw1 : IntKind.i64.wrap ((i : Int) + 1) = ((i + 1 : Nat) : Int) := by rw [wI (by omega) (by omega)]; omega
      simp [-Int.natCast_add, hw1, e21, e22, e23]
      exact ⟨by omega, by rw [hat]; exact hx⟩
    · have hx' := hx
      rw [wideB_iff] at hx'
      refine ite_r (t := true) (by simp; omega) (fun _ => ?_) (fun h => by cases h)
      simp
      exact hno (by simpa using hx)
  · rintro env w' ⟨e21, e22, e23, hall, rfl⟩
    simp [e22, e23]
    refine ite_r (t := false) (by simp) (fun h => by cases h) (fun _ => ?_)
    simp
    rwa [List.take_length] at hall

def rawI (l : List Int) : Int := 5 + (widL l : Int) * (l.length : Int)
def pcostI (k : Int) (l : List Int) : Int := if k = 31 then rawI l else sumI k l
theorem mul32 (a b : Nat) (ha : a ≤ 32) (hb : b ≤ 1000000) : (0 : Int) ≤ (a : Int) * (b : Int) ∧ (a : Int) * (b : Int) ≤ 32000000 := by
  have := mul_bd0 (a := (a : Int)) (b := (b : Int)) (A := 32) (B := 1000000) (by omega) (by omega) (by omega) (by omega)
  omega
theorem rawI_bd (l : List Int) (hl : l.length ≤ 1000000) : 5 ≤ rawI l ∧ rawI l ≤ 32000005 := by
  have := mul32 (widL l) l.length (widL_le l) hl
  unfold rawI; omega
theorem sumI_bd (k : Int) (l : List Int) : 0 ≤ sumI k l ∧ sumI k l ≤ 65 * (l.length : Int) := sumTo_bd k l l.length
theorem pcostI_bd (k : Int) (l : List Int) (hl : l.length ≤ 1000000) : 0 ≤ pcostI k l ∧ pcostI k l ≤ 65000000 := by
  have h1 := rawI_bd l hl
  have h2 := sumI_bd k l
  unfold pcostI
  split <;> omega

theorem raw_c {G : Nat → Prop} {w : World} {v : Value} {l : List Int} (h : Rd G w v l.length (intsV l)) (hl : l.length ≤ 1000000) : Calls Try.prog 46 [v].toArray w (Ret fun r w' => r = .int .i64 (rawI l) ∧ w' = w) := by
  refine F_sound c46 (by simp [fc46]) ?_
  obtain ⟨hS, hL⟩ := h.sl
  have hm := mul32 (widL l) l.length (widL_le l) hl
  simp [fc46, s46]
  refine callp (width_c' h hl) (by simp) ?_
  have hw1 : IntKind.i64.wrap ((widL l : Int) * (l.length : Int)) = (widL l : Int) * (l.length : Int) := wI (by omega) (by omega)
  have hw2 : IntKind.i64.wrap (5 + (widL l : Int) * (l.length : Int)) = 5 + (widL l : Int) * (l.length : Int) := wI (by omega) (by omega)
  simp [hS, hL, hw1, hw2, rawI]
theorem pcost_c {G : Nat → Prop} {w : World} {v : Value} {l : List Int} (k : Int) (h : Rd G w v l.length (intsV l)) (hl : l.length ≤ 1000000) : Calls Try.prog 47 [.int .i64 k, v].toArray w (Ret fun r w' => r = .int .i64 (pcostI k l) ∧ w' = w) := by
  refine F_sound c47 (by simp [fc47]) ?_
  obtain ⟨hS, hL⟩ := h.sl
  have hm := mul32 (widL l) l.length (widL_le l) hl
  simp [fc47, s47]
  unfold pcostI
  by_cases hk : k = 31
  · subst hk
    refine ite_r (t := true) (by simp) (fun _ => ?_) (fun h => by cases h)
    simp [hS, hL]
    refine callp (width2_c h hl) (by simp) ?_
    have hw1 : IntKind.i64.wrap ((l.length : Int) * (widL l : Int)) = (widL l : Int) * (l.length : Int) := by rw [Int.mul_comm]; exact wI (by omega) (by omega)
    have hw2 : IntKind.i64.wrap (5 + (widL l : Int) * (l.length : Int)) = 5 + (widL l : Int) * (l.length : Int) := wI (by omega) (by omega)
    simp [hS, hL, hw1, hw2, rawI]
  · refine ite_r (t := false) (by simp [hk]) (fun h => by cases h) (fun _ => ?_)
    simp [hk]
    refine callp (sum2_c k h hl) (by simp) ?_
    simp

end Go.Proofs.Ytajkofndbeohpaa.VG
