/-
  Parts: the best plan costs least (plain).
-/
import Derived.Test.YtajkofndbeohpaaPr
namespace Go.Proofs.Ytajkofndbeohpaa.VG
open Go
set_option linter.unusedSimpArgs false
set_option linter.unusedVariables false

theorem chK_least {k : Int} (hk : okK k = true) (l : List Int) : pcostI (chK l) l ≤ pcostI k l := by
  have hb := bestF_le l 25
  have h31 : ¬ ((bestN l : Int) = 31) := by unfold bestN; omega
  have hs : k ≠ 31 → sumI (bestN l) l ≤ sumI k l := by
    intro h
    have hp : paramB k = true := by simpa [okK, h] using hk
    have hp' := paramB_iff.1 hp
    obtain ⟨K, rfl⟩ : ∃ K : Nat, k = K := ⟨k.toNat, by omega⟩
    have h1 := (bestF_least l 25 K (by omega)).1
    rw [bestF_sum] at h1
    exact h1
  unfold chK
  split
  · rename_i h
    rw [pcostI, if_pos rfl, pcostI]
    split
    · omega
    · rename_i hk31
      have := hs hk31
      omega
  · rename_i h
    rw [pcostI, if_neg h31, pcostI]
    split
    · omega
    · rename_i hk31
      exact hs hk31
theorem bKs_least {ks s l : List Int} (hk : ks.all okK = true) : ∀ j, j ≤ ks.length → ∀ N, j ≤ N → costTo (bKs s l N) s l j ≤ costTo ks s l j
  | 0, _, _, _ => Int.le_refl _
  | j + 1, hj, N, hN => by
    have ih := bKs_least (s := s) (l := l) hk j (by omega) N (by omega)
    have h1 := chK_least (k := gi ks j) (by rw [List.all_eq_true] at hk; exact hk _ (gi_mem ks j (by omega))) (partI s l j)
    simp only [costTo]
    rw [bKs_gi s l N j (by omega)]
    omega
theorem bCost_least {o n wm : Int} {ks l : List Int} (hm : mayB o ks n wm = true) (hr : rightB n wm l = true) : bCost n wm l o ≤ costP o ks n wm l := by
  obtain ⟨hB, hkl, hk⟩ := may_iff.1 hm
  rw [bCost, costP, if_pos ⟨bKs_may l hB, hr⟩, costP, if_pos ⟨hm, hr⟩]
  exact bKs_least hk _ (by omega) _ (Nat.le_refl _)

/-- The plan that has won so far. -/
def Won (n wm : Int) (l : List Int) (j : Nat) (p : (Int × List Int) × Int) : Prop :=
  (∃ o' : Nat, o' < j ∧ szB o' n wm = true ∧ p = (((o' : Int), bKs (szS o' n wm) l (szS o' n wm).length), bCost n wm l o') ∧ ∀ o : Nat, o < j → szB o n wm = true → bCost n wm l o' ≤ bCost n wm l o) ∨
  (p = ((0, []), 0) ∧ ∀ o : Nat, o < j → szB o n wm = false)
theorem bst_won {n wm : Int} {l : List Int} (hr : rightB n wm l = true) (hl : l.length ≤ 1000000) : ∀ j, Won n wm l j (bst n wm l j)
  | 0 => .inr ⟨rfl, fun o h => by omega⟩
  | j + 1 => by
    have ih := bst_won hr hl j
    have hst : bst n wm l (j + 1) = if szB j n wm = true ∧ ((bst n wm l j).2 = 0 ∨ bCost n wm l j < (bst n wm l j).2) then (((j : Int), bKs (szS j n wm) l (szS j n wm).length), bCost n wm l j) else bst n wm l j := rfl
    have hlt : ∀ o, o < j + 1 → o = j ∨ o < j := fun o h => by omega
    rcases ih with ⟨o', h1, h2, h3, h4⟩ | ⟨h1, h2⟩
    · have hp := bCost_pos h2 hr hl
      rw [h3] at hst
      simp only at hst
      by_cases hc : szB j n wm = true ∧ (bCost n wm l o' = 0 ∨ bCost n wm l j < bCost n wm l o')
      · rw [if_pos hc] at hst
        refine .inl ⟨j, by omega, hc.1, hst, fun o ho hs => ?_⟩
        rcases hlt o ho with rfl | ho
        · exact Int.le_refl _
        · have := h4 o ho hs; omega
      · rw [if_neg hc] at hst
        refine .inl ⟨o', by omega, h2, hst, fun o ho hs => ?_⟩
        rcases hlt o ho with rfl | ho
        · have : ¬ (bCost n wm l o' = 0 ∨ bCost n wm l o < bCost n wm l o') := fun h => hc ⟨hs, h⟩
          omega
        · exact h4 o ho hs
    · rw [h1] at hst
      by_cases hc : szB j n wm = true
      · rw [if_pos ⟨hc, .inl rfl⟩] at hst
        refine .inl ⟨j, by omega, hc, hst, fun o ho hs => ?_⟩
        rcases hlt o ho with rfl | ho
        · exact Int.le_refl _
        · rw [h2 o ho] at hs; cases hs
      · rw [if_neg (fun h => hc h.1)] at hst
        refine .inr ⟨hst, fun o ho => ?_⟩
        rcases hlt o ho with rfl | ho
        · simpa using hc
        · exact h2 o ho
theorem sz0 {n wm : Int} (h : rowB n wm = true) : szB 0 n wm = true := by
  have h' := rowB_iff.1 h
  have hp : pw 0 = 1 := rfl
  exact szB_iff.2 ⟨h, by omega, by rw [hp]; omega, by rw [hp]; omega⟩
/-- What the best plan is. -/
theorem best_is {n wm : Int} (most : Int) {l : List Int} (hr : rightB n wm l = true) (hl : l.length ≤ 1000000) : ∃ (o : Nat) (ks : List Int), bestP n wm most l = (((o : Int), ks), 0) ∧ (o : Int) ≤ max most 0 ∧ mayB o ks n wm = true ∧ 0 < costP o ks n wm l ∧
    ∀ (o' : Int) ks', o' ≤ max most 0 → mayB o' ks' n wm = true → costP o ks n wm l ≤ costP o' ks' n wm l := by
  have hrow := (right_iff.1 hr).1
  rw [bestP, if_pos hr]
  rcases bst_won hr hl (ordN most) with ⟨o', h1, h2, h3, h4⟩ | ⟨h1, h2⟩
  · refine ⟨o', _, by rw [h3], by unfold ordN at h1; omega, bKs_may l h2, bCost_pos h2 hr hl, fun o ks ho hm => ?_⟩
    have hB := (may_iff.1 hm).1
    obtain ⟨_, ⟨o0, o8⟩, _, _⟩ := szB_iff.1 hB
    obtain ⟨O, rfl⟩ : ∃ O : Nat, o = O := ⟨o.toNat, by omega⟩
    have a := h4 O (by unfold ordN; omega) hB
    have b := bCost_least hm hr
    show bCost n wm l o' ≤ _
    omega
  · have := h2 0 (by unfold ordN; omega)
    rw [show ((0 : Nat) : Int) = 0 from rfl, sz0 hrow] at this
    cases this

theorem cost_raw_plan {n wm : Int} {l : List Int} (hr : rightB n wm l = true) : mayB 0 [31] n wm = true ∧ costP 0 [31] n wm l = 9 + rawI l := by
  obtain ⟨hrow, hln, ha⟩ := right_iff.1 hr
  have hB := sz0 hrow
  have hp : pw 0 = 1 := rfl
  have hs : szS 0 n wm = [n - wm] := by
    rw [szS, if_pos hB, hp]
    simp
  have hm : mayB 0 [31] n wm = true := may_iff.2 ⟨hB, by rw [hs]; rfl, by simp [okK]⟩
  refine ⟨hm, ?_⟩
  rw [costP, if_pos ⟨hm, hr⟩, hs]
  have hpart : partI [n - wm] l 0 = l := by
    have : (n - wm).toNat = l.length := by omega
    simp [partI, atI, gi, this]
  show costTo [31] [n - wm] l 1 = _
  simp only [costTo, hpart]
  have : gi [31] 0 = 31 := rfl
  rw [this, pcostI, if_pos rfl]
  omega

end Go.Proofs.Ytajkofndbeohpaa.VG
