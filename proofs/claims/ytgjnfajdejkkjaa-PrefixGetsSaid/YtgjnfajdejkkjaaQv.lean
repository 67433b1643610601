/-
  What the table of a code tells.
-/
import Derived.Test.YtgjnfajdejkkjaaQu
namespace Go.Proofs.Ytgjnfajdejkkjaa.VG
open Go
set_option linter.unusedSimpArgs false
set_option linter.unusedVariables false
set_option maxRecDepth 20000

theorem word_next {l : List Int} (hl : l.length ≤ 1024) {i : Nat} (h : i + 1 < (rk l).length) (he : gi l (gnn (rk l) i) = gi l (gnn (rk l) (i + 1))) : gi (cdW l) (gnn (rk l) (i + 1)) = gi (cdW l) (gnn (rk l) i) + 1 := by
  obtain ⟨c, hc, sc⟩ := word_at hl (j := i) (by omega)
  obtain ⟨d, hd, sd⟩ := word_at hl h
  have e : lnN l (i + 1) = lnN l i := by unfold lnN; rw [he]
  rw [e] at sd
  have hS : shS l (i + 1) = shS l i + 2 ^ (24 - lnN l i) := rfl
  have hp := Nat.two_pow_pos (24 - lnN l i)
  have : d * 2 ^ (24 - lnN l i) = (c + 1) * 2 ^ (24 - lnN l i) := by rw [sd, hS, Nat.add_mul, sc, Nat.one_mul]
  have := Nat.eq_of_mul_eq_mul_right hp this
  rw [hc, hd]; omega

def TbOk (l : List Int) (i : Nat) : Prop := ∀ n, (tbl l i).2.2 n = ((rk l).take i).filter (fun s => decide (gi l s = (n : Int))) ∧ (∀ (j s : Nat), ((tbl l i).2.2 n)[j]? = some s → gi (cdW l) s = (tbl l i).2.1 n + (j : Int)) ∧ 0 ≤ (tbl l i).2.1 n
theorem tbl_ok {l : List Int} (hl : l.length ≤ 1024) : ∀ i, i ≤ (rk l).length → TbOk l i
  | 0, _ => fun n => ⟨rfl, fun j s h => by simp [tbl] at h, Int.le_refl _⟩
  | i + 1, h => fun n => by
    have ih := tbl_ok hl i (by omega)
    obtain ⟨k1, k2, k3⟩ := rk_lt (l := l) (i := i) (by omega)
    obtain ⟨c, hc, _⟩ := word_at hl (j := i) (by omega)
    obtain ⟨m, hm⟩ : ∃ m : Nat, gi l (gnn (rk l) i) = m := ⟨(gi l (gnn (rk l) i)).toNat, by omega⟩
    rw [tbl_snoc (by omega)]
    unfold stepT
    rw [hm, Int.toNat_natCast]
    simp only [gnn_take (show i < (rk l).length by omega), List.filter_append]
    by_cases hnm : n = m
    · subst hnm
      obtain ⟨i1, i2, i3⟩ := ih n
      have hf : [gnn (rk l) i].filter (fun s => decide (gi l s = (n : Int))) = [gnn (rk l) i] := by simp [hm]
      rw [hf]
      have hself : upG (tbl l i).2.1 n (gi (cdW l) (gnn (rk l) i)) n = gi (cdW l) (gnn (rk l) i) := by simp [upG]
      have hself2 : upG (tbl l i).2.2 n ((tbl l i).2.2 n ++ [gnn (rk l) i]) n = (tbl l i).2.2 n ++ [gnn (rk l) i] := by simp [upG]
      rw [hself2]
      by_cases hnil : (tbl l i).2.2 n = []
      · rw [hnil] at i1 i2 ⊢
        simp only [if_true, List.nil_append]
        rw [← i1]
        refine ⟨rfl, fun j s hs => ?_, by rw [hself]; omega⟩
        rw [hself]
        rcases j with _ | j
        · simp at hs; subst hs; omega
        · simp at hs
      · rw [if_neg hnil]
        refine ⟨by rw [i1], fun j s hs => ?_, i3⟩
        by_cases hj : j < ((tbl l i).2.2 n).length
        · rw [List.getElem?_append_left hj] at hs
          exact i2 j s hs
        · rw [List.getElem?_append_right (by omega)] at hs
          have hjl : j = ((tbl l i).2.2 n).length := by
            rcases hq : j - ((tbl l i).2.2 n).length with _ | q
            · omega
            · rw [hq] at hs; simp at hs
          rw [hjl, Nat.sub_self] at hs
          simp at hs
          subst hs
          obtain ⟨x, hx⟩ := List.exists_mem_of_ne_nil _ hnil
          rw [i1, List.mem_filter] at hx
          obtain ⟨a, ha, rfl⟩ := List.mem_iff_getElem.1 hx.1
          rw [List.length_take] at ha
          obtain ⟨i', rfl⟩ : ∃ i', i = i' + 1 := ⟨i - 1, by omega⟩
          have hgx : gi l (gnn (rk l) a) = n := by
            have := hx.2
            rw [List.getElem_take, gnn_get (by omega)] at this
            simpa using this
          have he : gi l (gnn (rk l) i') = n := by
            have h1 := rk_mono (l := l) (i := i') (j := i' + 1) (by omega) (by omega)
            rcases Nat.lt_or_ge a i' with h2 | h2
            · have := rk_mono (l := l) h2 (by omega)
              omega
            · obtain rfl : a = i' := by omega
              exact hgx
          have hlast : (tbl l (i' + 1)).2.2 n = ((rk l).take i').filter (fun s => decide (gi l s = (n : Int))) ++ [gnn (rk l) i'] := by
            rw [i1, gnn_take (by omega), List.filter_append]; simp [he]
          have hw := word_next hl (i := i') (by omega) (by rw [he, hm])
          have h3 := i2 (((rk l).take i').filter (fun s => decide (gi l s = (n : Int)))).length (gnn (rk l) i') (by rw [hlast]; simp)
          rw [hw, h3, hjl, hlast, List.length_append, List.length_singleton]
          omega
    · obtain ⟨i1, i2, i3⟩ := ih n
      have hf : [gnn (rk l) i].filter (fun s => decide (gi l s = (n : Int))) = [] := by simp [hm]; omega
      rw [hf, List.append_nil]
      have hu : ∀ x, upG (tbl l i).2.1 m x n = (tbl l i).2.1 n := fun x => by simp [upG, hnm]
      have hu2 : ∀ x, upG (tbl l i).2.2 m x n = (tbl l i).2.2 n := fun x => by simp [upG, hnm]
      rw [hu2]
      refine ⟨i1, ?_, ?_⟩
      · split
        · rw [hu]; exact i2
        · exact i2
      · split
        · rw [hu]; exact i3
        · exact i3


theorem tbl_fi {l : List Int} (hf : fullB l = true) : ∀ i, i ≤ (rk l).length → ∀ n, (tbl l i).2.1 n ≤ 16777216
  | 0, _ => fun n => by show (0 : Int) ≤ 16777216; omega
  | i + 1, h => fun n => by
    have ih := tbl_fi hf i (by omega) n
    obtain ⟨k1, k2, k3⟩ := rk_lt (l := l) (i := i) (by omega)
    obtain ⟨c, hc, hlt⟩ := word_fits hf k1
    have hp : 2 ^ (gi l (gnn (rk l) i)).toNat ≤ 2 ^ 24 := Nat.pow_le_pow_right (by omega) (by omega)
    rw [tbl_snoc (by omega)]
    unfold stepT
    simp only
    split
    · unfold upG
      split
      · rw [hc]; omega
      · exact ih
    · exact ih
/-- The table's search is the document's. -/
theorem dec_all {l : List Int} (hl : l.length ≤ 1024) (bs : List Nat) (p : Nat) : ∃ lo : Nat, (tbl l (rk l).length).1 = lo ∧ lo ≤ 24 ∧ decT (tbl l (rk l).length).2.1 (tbl l (rk l).length).2.2 bs lo 1 0 p = decW l bs (rk l) 0 0 p := by
  have hok := tbl_ok hl (rk l).length (Nat.le_refl _)
  have hmem : ∀ s ∈ rk l, ∃ j, j < (rk l).length ∧ gnn (rk l) j = s := fun s hs => by
    obtain ⟨j, hj, e⟩ := List.mem_iff_getElem.1 hs
    exact ⟨j, hj, by rw [← gnn_get hj]; exact e⟩
  have hall : (rk l).filter (fun s => decide (((0 : Nat) : Int) < gi l s)) = rk l := by
    rw [List.filter_eq_self]
    intro s hs
    obtain ⟨j, hj, rfl⟩ := hmem s hs
    have := rk_lt hj
    simp; omega
  have hb : ∀ n, (tbl l (rk l).length).2.2 n = (rk l).filter (fun s => decide (gi l s = (n : Int))) := fun n => by
    have := (hok n).1
    rwa [List.take_length] at this
  rcases Nat.eq_zero_or_pos (rk l).length with h0 | h0
  · refine ⟨0, by rw [h0]; rfl, by omega, ?_⟩
    have hn : rk l = [] := List.length_eq_zero_iff.1 h0
    rw [hn]; rfl
  · obtain ⟨m, hm⟩ : ∃ m, (rk l).length = m + 1 := ⟨(rk l).length - 1, by omega⟩
    obtain ⟨k1, k2, k3⟩ := rk_lt (l := l) (i := m) (by omega)
    refine ⟨(gi l (gnn (rk l) m)).toNat, ?_, by omega, ?_⟩
    · rw [hm, tbl_snoc (by omega)]
      show gi l (gnn (rk l) m) = _
      omega
    · have := dec_eq (bs := bs) (lo := (gi l (gnn (rk l) m)).toNat) hb (fun n => (hok n).2.1) (fun n => (hok n).2.2) (fun s hs => by
        obtain ⟨j, hj, rfl⟩ := hmem s hs
        rcases Nat.lt_or_ge j m with h | h
        · have := rk_mono h (by omega : m < (rk l).length); omega
        · obtain rfl : j = m := by omega
          omega) (.inr ⟨gnn (rk l) m, gnn_mem (by omega), by omega⟩) (gi l (gnn (rk l) m)).toNat 0 0 p (by omega)
      rw [hall] at this
      exact this

end Go.Proofs.Ytgjnfajdejkkjaa.VG
