/-
  Scan: whether an order has each place once.
-/
import Derived.Test.YtbncppklmhfnmaaNi
namespace Go.Proofs.Ytbncppklmhfnmaa.VG
open Go
set_option linter.unusedSimpArgs false
set_option linter.unusedVariables false
set_option maxRecDepth 20000

noncomputable def okB (o : List Int) (n : Nat) : Bool := @decide (okP o n) (Classical.propDecidable _)
theorem okB_iff {o : List Int} {n : Nat} : okB o n = true ↔ okP o n := by simp [okB]
theorem okB_no {o : List Int} {n : Nat} (h : ¬ okP o n) : okB o n = false := by simp [okB, h]
def okTo (o : List Int) (n i : Nat) : Prop := (o.take i).Nodup ∧ ∀ a ∈ o.take i, 0 ≤ a ∧ a < n
theorem okTo.snoc {o : List Int} {n i : Nat} (h : okTo o n i) (hi : i < o.length) (h0 : 0 ≤ gi o i) (h1 : gi o i < n) (h2 : gi o i ∉ o.take i) : okTo o n (i + 1) := by
  unfold okTo
  rw [gi_take_snoc o i hi]
  refine ⟨?_, ?_⟩
  · rw [List.nodup_append]
    refine ⟨h.1, by simp, ?_⟩
    intro a ha b hb e
    simp only [List.mem_singleton] at hb
    subst hb
    subst e
    exact h2 ha
  · intro a ha
    rcases List.mem_append.1 ha with ha | ha
    · exact h.2 a ha
    · simp only [List.mem_singleton] at ha
      subst ha
      exact ⟨h0, h1⟩
theorem okTo.full {o : List Int} {n : Nat} (h : okTo o n o.length) (hn : o.length = n) : okP o n := by
  unfold okTo at h
  rw [List.take_length] at h
  exact ⟨hn, h.1, h.2⟩
theorem not_ok_seen {o : List Int} {n i : Nat} (hi : i < o.length) (h : gi o i ∈ o.take i) : ¬ okP o n := by
  intro hk
  have h1 : (o.take (i + 1)).Nodup := hk.2.1.sublist (List.take_sublist _ _)
  rw [gi_take_snoc o i hi, List.nodup_append] at h1
  exact h1.2.2 _ h _ (by simp) rfl
theorem not_ok_range {o : List Int} {n i : Nat} (hi : i < o.length) (h : ¬ (0 ≤ gi o i ∧ gi o i < n)) : ¬ okP o n := fun hk => h (hk.2.2 _ (gi_mem o i hi))
theorem ok_gi {o : List Int} {n : Nat} (h : okP o n) (i : Nat) (hi : i < o.length) : ∃ k : Nat, gi o i = k ∧ k < n := by
  have := h.2.2 _ (gi_mem o i hi)
  exact ⟨(gi o i).toNat, by omega, by omega⟩

def boolsV (l : List Bool) : List Value := l.map .bool
def seenL (o : List Int) (i n : Nat) : List Bool := (List.range n).map fun k : Nat => decide ((k : Int) ∈ o.take i)
theorem seenL_len (o : List Int) (i n : Nat) : (boolsV (seenL o i n)).length = n := by simp [boolsV, seenL]
theorem seenL_get (o : List Int) (i n k : Nat) (hk : k < n) : (boolsV (seenL o i n))[k]? = some (.bool (decide ((k : Int) ∈ o.take i))) := by simp [boolsV, seenL, hk]
theorem seenL_set (o : List Int) (i n k : Nat) (hi : i < o.length) (hk : gi o i = k) (hn : k < n) : (boolsV (seenL o i n)).set k (.bool true) = boolsV (seenL o (i + 1) n) := by
  apply List.ext_getElem
  · simp [boolsV, seenL]
  · intro j h1 h2
    simp only [boolsV, seenL, List.getElem_set, List.getElem_map, List.getElem_range]
    rw [gi_take_snoc o i hi, hk]
    by_cases hj : k = j
    · subst hj; simp
    · rw [if_neg hj]
      congr 1
      simp only [List.mem_append, List.mem_singleton]
      have : ¬ ((j : Int) = (k : Int)) := by omega
      simp [this]
theorem slTB : SlT Try.prog 60 4 1 1 := ⟨by kernel_rfl, ⟨_, _, rfl, rfl, rfl, rfl, rfl⟩, by omega⟩
theorem boolsV_zeros (o : List Int) (n : Nat) : (madeCells (Value.bool false).cells (n * 1)).toList = boolsV (seenL o 0 n) := by
  apply List.ext_getElem
  · simp [size_madeCells, boolsV, seenL]
  · intro i h1 h2
    simp [madeCells, boolsV, seenL, Value.cells, Nat.mod_one]
theorem zeroB {z : Value} (h : ∃ i, Try.prog.info? 4 = some i ∧ i.zero = some z) : z = .bool false := by
  obtain ⟨i, hi, hz⟩ := h
  obtain ⟨j, h3, h4⟩ : ∃ j, Try.prog.info? 4 = some j ∧ j.zero = some (.bool false) := ⟨_, rfl, rfl⟩
  rw [h3] at hi
  cases hi
  rw [h4] at hz
  cases hz
  rfl

set_option maxHeartbeats 2000000 in
theorem permutes_c {G : Nat → Prop} {w : World} {v : Value} {o : List Int} (hr : Rd G w v o.length (intsV o)) (hl : o.length ≤ 1000000) (n : Nat) :
    Calls Try.prog 35 [v, .int .i64 n].toArray w (Ret fun r w' => r = .bool (okB o n) ∧ Mod none' w w') := by
  refine F_sound c35 (by simp [fc35]) ?_
  obtain ⟨hS, hL⟩ := hr.sl
  simp [fc35, s35, hS, hL]
  by_cases hn : o.length = n
  rotate_left
  · refine ite_r (t := true) (by simp; omega) (fun _ => ?_) (fun h => by cases h)
    simp [Mod.refl, okB_no (fun h : okP o n => hn h.1)]
  refine ite_r (t := false) (by simp [hn]) (fun h => by cases h) (fun _ => ?_)
  simp
  refine mkN_h slTB (kl := .i64) (kc := .i64) (n := n) (xs := boolsV (seenL o 0 n)) (Hp.nil w) (by simp) (by simp) (by omega) (by unfold maxLen; omega) (fun z hz => by rw [zeroB hz, boolsV_zeros o]) ?_
  intro sv w1 H M1
  refine ⟨.inl rfl, ?_⟩
  obtain ⟨sS, sL⟩ := (H.rd 0 rfl).sl
  simp [hS, hL]
  refine for_r o.length (fun i env' w' => env' 1 = .int .i64 n ∧ env' 5 = sv ∧ env' 14 = v ∧ env' 15 = .int .i64 o.length ∧ env' 16 = .int .i64 i ∧ okTo o n i ∧ Hp w w' [.own 4 1 sv n (boolsV (seenL o i n))]) ?_ ?_ ?_
  · simp [okTo]
    exact H
  · rintro i env w2 hi ⟨e1, e5, e14, e15, e16, hto, H⟩
    have wi : IntKind.i64.wrap ((i : Int) + 1) = ((i + 1 : Nat) : Int) := by rw [wI (by omega) (by omega)]; omega
    have hc := (hr.at H.mod).gi i hi
    have hp := hr.some (by omega)
    simp [e15, e16]
    refine ite_r (t := true) (by simp; omega) (fun _ => ?_) (fun h => by cases h)
    by_cases hrange : 0 ≤ gi o i ∧ gi o i < n
    rotate_left
    · have hno := okB_no (not_ok_range hi hrange)
      by_cases hneg : gi o i < 0
      · simp [wp_blk, e1, e5, e14, e16, hS, hL, hi, hp, hc, hneg]
        refine ite_r (t := true) (by simp [hneg]) (fun _ => ?_) (fun h => by cases h)
        simp [hno]
        exact H.mod
      · have hge : (n : Int) ≤ gi o i := by omega
        simp [wp_blk, e1, e5, e14, e16, hS, hL, hi, hp, hc, hneg, hge]
        refine ite_r (t := true) (by simp [hneg, hge]) (fun _ => ?_) (fun h => by cases h)
        simp [hno]
        exact H.mod
    obtain ⟨k, hk⟩ : ∃ k : Nat, gi o i = k := ⟨(gi o i).toNat, by omega⟩
    have hkn : k < n := by omega
    have hge : ¬ (n : Int) ≤ (k : Int) := by omega
    have hsc := (H.rd 0 rfl).cell k _ (seenL_get o i n k hkn)
    have hsp := (H.rd 0 rfl).ptr (by rw [seenL_len]; omega)
    rw [hk] at hc
    have hkn' : ((k : Int) < (n : Int)) := by omega
    simp [wp_blk, e1, e5, e14, e16, hS, hL, hi, hp, hc, hge, sS, sL, hsp.1, hsc, hkn]
    by_cases hseen : (k : Int) ∈ o.take i
    · have hno := okB_no (n := n) (not_ok_seen hi (by rw [hk]; exact hseen))
      refine ite_r (t := true) (by simp [hge, hsc, hseen]) (fun _ => ?_) (fun h => by cases h)
      simp [hno]
      exact H.mod
    · refine ite_r (t := false) (by simp [hge, hsc, hseen]) (fun h => by cases h) (fun _ => ?_)
      simp [e5, sS, sL, hkn, hsp.1]
      refine set_h 0 H rfl (i := k) (u := .bool true) hkn (by simp [e5, sS, sL, hkn, hsp.1]) (by simp) (by simp) ?_
      intro w3 H
      refine ⟨.inl rfl, ?_⟩
      simp [-Int.natCast_add, e1, e5, e14, e15, e16, wi]
      simp only [List.set_cons_zero] at H
      rw [seenL_set o i n k hi hk hkn] at H
      exact ⟨by omega, hto.snoc hi hrange.1 hrange.2 (by rw [hk]; exact hseen), H⟩
  · rintro env w2 ⟨e1, e5, e14, e15, e16, hto, H⟩
    simp [e15, e16]
    refine ite_r (t := false) (by simp) (fun h => by cases h) (fun _ => ?_)
    simp [okB_iff.2 (hto.full hn)]
    exact H.mod

set_option maxHeartbeats 2000000 in
theorem all_c {G : Nat → Prop} {w : World} {v : Value} {o : List Int} (hr : Rd G w v o.length (intsV o)) (hl : o.length ≤ 1000000) (n : Nat) :
    Calls Try.prog 37 [v, .int .i64 n].toArray w (Ret fun r w' => r = .bool (okB o n) ∧ Mod none' w w') := by
  refine F_sound c37 (by simp [fc37]) ?_
  obtain ⟨hS, hL⟩ := hr.sl
  simp [fc37, s37, hS, hL]
  by_cases hn : o.length = n
  rotate_left
  · refine ite_r (t := true) (by simp; omega) (fun _ => ?_) (fun h => by cases h)
    simp [Mod.refl, okB_no (fun h : okP o n => hn h.1)]
  refine ite_r (t := false) (by simp [hn]) (fun h => by cases h) (fun _ => ?_)
  simp
  refine mkN_h slTB (kl := .i64) (kc := .i64) (n := n) (xs := boolsV (seenL o 0 n)) (Hp.nil w) (by simp) (by simp) (by omega) (by unfold maxLen; omega) (fun z hz => by rw [zeroB hz, boolsV_zeros o]) ?_
  intro sv w1 H M1
  refine ⟨.inl rfl, ?_⟩
  obtain ⟨sS, sL⟩ := (H.rd 0 rfl).sl
  simp [hS, hL]
  refine for_r n (fun i env' w' => env' 0 = v ∧ env' 1 = .int .i64 n ∧ env' 5 = sv ∧ env' 6 = .int .i64 i ∧ okTo o n i ∧ Hp w w' [.own 4 1 sv n (boolsV (seenL o i n))]) ?_ ?_ ?_
  · simp [okTo]
    exact H
  · rintro i env w2 hin ⟨e0, e1, e5, e6, hto, H⟩
    have hi : i < o.length := by omega
    have wi : IntKind.i64.wrap ((i : Int) + 1) = ((i + 1 : Nat) : Int) := by rw [wI (by omega) (by omega)]; omega
    have hc := (hr.at H.mod).gi i hi
    have hp := hr.some (by omega)
    simp [e1, e6]
    refine ite_r (t := true) (by simp; omega) (fun _ => ?_) (fun h => by cases h)
    by_cases hrange : 0 ≤ gi o i ∧ gi o i < n
    rotate_left
    · have hno := okB_no (not_ok_range hi hrange)
      by_cases hneg : gi o i < 0
      · simp [wp_blk, e0, e1, e5, e6, hS, hL, hi, hp, hc, hneg]
        refine ite_r (t := true) (by simp [hneg]) (fun _ => ?_) (fun h => by cases h)
        simp [hno]
        exact H.mod
      · have hge : (n : Int) ≤ gi o i := by omega
        simp [wp_blk, e0, e1, e5, e6, hS, hL, hi, hp, hc, hneg, hge]
        refine ite_r (t := true) (by simp [hneg, hge]) (fun _ => ?_) (fun h => by cases h)
        simp [hno]
        exact H.mod
    obtain ⟨k, hk⟩ : ∃ k : Nat, gi o i = k := ⟨(gi o i).toNat, by omega⟩
    have hkn : k < n := by omega
    have hge : ¬ (n : Int) ≤ (k : Int) := by omega
    have hsc := (H.rd 0 rfl).cell k _ (seenL_get o i n k hkn)
    have hsp := (H.rd 0 rfl).ptr (by rw [seenL_len]; omega)
    rw [hk] at hc
    simp [wp_blk, e0, e1, e5, e6, hS, hL, hi, hp, hc, hge, sS, sL, hsp.1, hsc, hkn]
    by_cases hseen : (k : Int) ∈ o.take i
    · have hno := okB_no (n := n) (not_ok_seen hi (by rw [hk]; exact hseen))
      refine ite_r (t := true) (by simp [hge, hsc, hseen]) (fun _ => ?_) (fun h => by cases h)
      simp [hno]
      exact H.mod
    · refine ite_r (t := false) (by simp [hge, hsc, hseen]) (fun h => by cases h) (fun _ => ?_)
      simp [e0, e5, e6, hS, hL, hi, hp, hc, sS, sL, hkn, hsp.1]
      refine set_h 0 H rfl (i := k) (u := .bool true) hkn (by simp [e5, sS, sL, hkn, hsp.1]) (by simp) (by simp) ?_
      intro w3 H
      refine ⟨.inl rfl, ?_⟩
      simp [-Int.natCast_add, e0, e1, e5, e6, wi]
      simp only [List.set_cons_zero] at H
      rw [seenL_set o i n k hi hk hkn] at H
      exact ⟨by omega, hto.snoc hi hrange.1 hrange.2 (by rw [hk]; exact hseen), H⟩
  · rintro env w2 ⟨e0, e1, e5, e6, hto, H⟩
    simp [e1, e6]
    refine ite_r (t := false) (by simp) (fun h => by cases h) (fun _ => ?_)
    rw [← hn] at hto
    rw [hn] at hto
    have hk : okP o n := by
      have h := hto
      rw [← hn] at h
      exact hn ▸ h.full rfl
    simp [okB_iff.2 hk]
    exact H.mod

end Go.Proofs.Ytbncppklmhfnmaa.VG
