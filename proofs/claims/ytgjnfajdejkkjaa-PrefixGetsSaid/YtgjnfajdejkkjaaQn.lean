/-
  Words as shares: no word begins another one.
-/
import Derived.Test.YtgjnfajdejkkjaaQl
namespace Go.Proofs.Ytgjnfajdejkkjaa.VG
open Go
set_option linter.unusedSimpArgs false
set_option linter.unusedVariables false
set_option maxRecDepth 20000

def lnN (l : List Int) (j : Nat) : Nat := (gi l (gnn (rk l) j)).toNat
/-- The shares of the first words. -/
def shS (l : List Int) : Nat → Nat
  | 0 => 0
  | j + 1 => shS l j + 2 ^ (24 - lnN l j)
theorem lnN_bd {l : List Int} {j : Nat} (h : j < (rk l).length) : 1 ≤ lnN l j ∧ lnN l j ≤ 24 ∧ gi l (gnn (rk l) j) = (lnN l j : Int) := by
  obtain ⟨_, a, b⟩ := rk_lt h
  unfold lnN
  omega
theorem pow24 (n : Nat) : 2 ^ (24 - n) ≤ 16777216 := by
  have : 2 ^ (24 - n) ≤ 2 ^ 24 := Nat.pow_le_pow_right (by omega) (by omega)
  omega
theorem shS_le (l : List Int) : ∀ j, shS l j ≤ 16777216 * j
  | 0 => by simp [shS]
  | j + 1 => by
    have := shS_le l j
    have := pow24 (lnN l j)
    unfold shS; omega
theorem shS_mono (l : List Int) {i : Nat} : ∀ {j : Nat}, i < j → shS l i + 2 ^ (24 - lnN l i) ≤ shS l j
  | 0, h => by omega
  | j + 1, h => by
    rcases Nat.lt_or_ge i j with hj | hj
    · have h1 := shS_mono l hj
      have h2 := Nat.two_pow_pos (24 - lnN l j)
      show _ ≤ shS l j + 2 ^ (24 - lnN l j)
      omega
    · obtain rfl : i = j := by omega
      exact Nat.le_refl _
theorem lnN_mono {l : List Int} {i j : Nat} (hij : i < j) (h : j < (rk l).length) : lnN l i ≤ lnN l j := by
  have := rk_mono hij h
  unfold lnN; omega

theorem word_share {l : List Int} (hl : l.length ≤ 1024) : ∀ j, j < (rk l).length → ∃ c : Nat, (cdN l (j + 1)).2.1 = c ∧ c * 2 ^ (24 - lnN l j) = shS l j
  | 0, h => by
    refine ⟨0, ?_, by simp [shS]⟩
    rw [cdN_snoc h]
    rfl
  | j + 1, h => by
    obtain ⟨c, hc, hs⟩ := word_share hl j (by omega)
    obtain ⟨a1, a2, a3⟩ := lnN_bd (l := l) (j := j) (by omega)
    obtain ⟨b1, b2, b3⟩ := lnN_bd h
    have hm := lnN_mono (l := l) (i := j) (j := j + 1) (by omega) h
    have hb := cdN_before (l := l) (i := j) (by omega)
    have hpos := Nat.two_pow_pos (24 - lnN l j)
    have hle := shS_le l (j + 1)
    have hrl := rk_le l
    have hsum : (c + 1) * 2 ^ (lnN l (j + 1) - lnN l j) * 2 ^ (24 - lnN l (j + 1)) = shS l (j + 1) := by
      rw [Nat.mul_assoc, ← Nat.pow_add, show lnN l (j + 1) - lnN l j + (24 - lnN l (j + 1)) = 24 - lnN l j by omega, Nat.add_mul, hs, Nat.one_mul]
      rfl
    have hpos2 := Nat.two_pow_pos (24 - lnN l (j + 1))
    have hbig : (c + 1) * 2 ^ (lnN l (j + 1) - lnN l j) ≤ shS l (j + 1) := by
      rw [← hsum]
      exact Nat.le_mul_of_pos_right _ hpos2
    have hc1 : c + 1 ≤ (c + 1) * 2 ^ (lnN l (j + 1) - lnN l j) := Nat.le_mul_of_pos_right _ (Nat.two_pow_pos _)
    refine ⟨(c + 1) * 2 ^ (lnN l (j + 1) - lnN l j), ?_, hsum⟩
    have hst : (cdN l (j + 1 + 1)).2.1 = (stepC l (cdN l (j + 1)) (gnn (rk l) (j + 1))).2.1 := by rw [cdN_snoc h]
    rw [hst]
    unfold stepC
    simp only
    rw [hb, if_pos (by omega), hc, a3, b3]
    generalize hq : (c + 1) * 2 ^ (lnN l (j + 1) - lnN l j) = q at *
    have w1 : IntKind.u64.wrap ((c : Int) + 1) = ((c + 1 : Nat) : Int) := by rw [wU (by omega) (by omega)]; omega
    rw [w1, show (lnN l (j + 1) : Int) - lnN l j = ((lnN l (j + 1) - lnN l j : Nat) : Int) by omega, shl_nat _ _ _ (by simp only [IntKind.bits]; omega), hq]
    exact wU (by omega) (by omega)


/-- A word, once set, stays. -/
theorem word_stays {l : List Int} {j : Nat} (hj : j < (rk l).length) : ∀ m, j < m → m ≤ (rk l).length → gi (cdN l m).1 (gnn (rk l) j) = (cdN l (j + 1)).2.1
  | 0, h, _ => by omega
  | m + 1, h, hm => by
    rcases Nat.lt_or_ge j m with hlt | hge
    · rw [cdN_snoc (by omega)]
      have hne : gnn (rk l) m ≠ gnn (rk l) j := by
        have hnd : (rk l).Pairwise (· ≠ ·) := rkN_nodup l 24
        intro e
        rw [← gnn_get (r := rk l) (i := m) (by omega), ← gnn_get (r := rk l) (i := j) hj] at e
        exact List.pairwise_iff_getElem.1 hnd j m hj (by omega) hlt e.symm
      show gi ((cdN l m).1.set _ _) _ = _
      rw [gi_set_ne _ _ _ _ hne]
      exact word_stays hj m hlt (by omega)
    · obtain rfl : j = m := by omega
      exact cdN_word hj
theorem word_zero {l : List Int} {s : Nat} (hs : s ∉ rk l) : ∀ m, m ≤ (rk l).length → gi (cdN l m).1 s = 0
  | 0, _ => by
    show gi (List.replicate l.length 0) s = 0
    unfold gi
    rw [List.getD_eq_getElem?_getD, List.getElem?_replicate]
    split <;> rfl
  | m + 1, h => by
    rw [cdN_snoc (by omega)]
    show gi ((cdN l m).1.set _ _) _ = _
    rw [gi_set_ne _ _ _ _ (fun e => hs (by rw [← e]; exact gnn_mem (by omega)))]
    exact word_zero hs m (by omega)
theorem word_at {l : List Int} (hl : l.length ≤ 1024) {j : Nat} (h : j < (rk l).length) : ∃ c : Nat, gi (cdW l) (gnn (rk l) j) = c ∧ c * 2 ^ (24 - lnN l j) = shS l j := by
  obtain ⟨c, hc, hs⟩ := word_share hl j h
  exact ⟨c, by rw [← hc]; exact word_stays h _ h (Nat.le_refl _), hs⟩

/-! ### All shares together -/
def sumG (g : Nat → Int) (r : List Nat) : Int := (r.map g).sum
theorem sumG_app (g : Nat → Int) (r s : List Nat) : sumG g (r ++ s) = sumG g r + sumG g s := by simp [sumG]
def hatG (l : List Int) (g : Nat → Int) (k i : Nat) : Int := sumG (fun j => if 1 ≤ gi l j ∧ gi l j ≤ k then g j else 0) (List.range i)
theorem filN_sum (l : List Int) (g : Nat → Int) (n : Nat) : ∀ i, sumG g (filN l n i) = sumG (fun j => if gi l j = ((n + 1 : Nat) : Int) then g j else 0) (List.range i)
  | 0 => by simp [filN, sumG]
  | i + 1 => by
    rw [filN_snoc, sumG_app, filN_sum l g n i, List.range_succ, sumG_app]
    by_cases h : gi l i = ((n + 1 : Nat) : Int)
    · rw [if_pos h]
      simp only [sumG, List.map_cons, List.map_nil, List.sum_cons, List.sum_nil, if_pos h]
    · rw [if_neg h]
      simp only [sumG, List.map_cons, List.map_nil, List.sum_cons, List.sum_nil, if_neg h]
      omega
theorem sumG_add (f g h : Nat → Int) : ∀ r : List Nat, (∀ i ∈ r, f i + g i = h i) → sumG f r + sumG g r = sumG h r
  | [], _ => by simp [sumG]
  | a :: r, hh => by
    have ih := sumG_add f g h r (fun i hi => hh i (by simp [hi]))
    have h1 := hh a (by simp)
    simp only [sumG, List.map_cons, List.sum_cons] at *
    omega
theorem rkN_sum (l : List Int) (g : Nat → Int) : ∀ k, sumG g (rkN l k) = hatG l g k l.length
  | 0 => by
    have : ∀ r : List Nat, sumG (fun j => if 1 ≤ gi l j ∧ gi l j ≤ ((0 : Nat) : Int) then g j else 0) r = 0 := by
      intro r
      induction r with
      | nil => rfl
      | cons a r ih =>
        simp only [sumG, List.map_cons, List.sum_cons] at *
        rw [ih, if_neg (by omega)]; rfl
    unfold hatG
    rw [this]
    rfl
  | k + 1 => by
    rw [rkN_snoc, sumG_app, rkN_sum l g k, filN_sum]
    unfold hatG
    refine sumG_add _ _ _ _ fun i _ => ?_
    by_cases h1 : 1 ≤ gi l i ∧ gi l i ≤ (k : Int)
    · rw [if_pos h1, if_neg (by omega), if_pos (by omega)]; omega
    · rw [if_neg h1]
      by_cases h2 : gi l i = ((k + 1 : Nat) : Int)
      · rw [if_pos h2, if_pos (by omega)]; omega
      · rw [if_neg h2, if_neg (by omega)]; rfl
theorem suN_range (l : List Int) : suN l = sumG (fun j => part24 (gi l j)) (List.range l.length) := by
  have h : ∀ i, i ≤ l.length → suN (l.take i) = sumG (fun j => part24 (gi l j)) (List.range i) := by
    intro i
    induction i with
    | zero => intro _; simp [suN, sumG]
    | succ i ih =>
      intro hi
      rw [gi_take_snoc l i (by omega), suN_snoc, ih (by omega), List.range_succ, sumG_app]
      simp [sumG]
  have := h l.length (Nat.le_refl _)
  rwa [List.take_length] at this
theorem shS_sum (l : List Int) : ∀ m, m ≤ (rk l).length → (shS l m : Int) = sumG (fun j => part24 (gi l j)) ((rk l).take m)
  | 0, _ => by simp [shS, sumG]
  | m + 1, h => by
    rw [gnn_take (by omega), sumG_app, ← shS_sum l m (by omega)]
    obtain ⟨a, b, c⟩ := lnN_bd (l := l) (j := m) (by omega)
    show ((shS l m + 2 ^ (24 - lnN l m) : Nat) : Int) = _
    simp only [sumG, List.map_cons, List.map_nil, List.sum_cons, List.sum_nil]
    rw [c]
    unfold part24 p2
    rw [if_pos (by omega), show (24 - (lnN l m : Int)).toNat = 24 - lnN l m by omega]
    omega
theorem shS_all {l : List Int} (h : l.all okLen = true) : (shS l (rk l).length : Int) = suN l := by
  rw [shS_sum l _ (Nat.le_refl _), List.take_length]
  unfold rk
  rw [rkN_sum, suN_range]
  unfold hatG sumG
  congr 1
  refine List.map_congr_left fun j hj => ?_
  have hj' := List.mem_range.1 hj
  have := okLen_iff.1 (List.all_eq_true.1 h _ (gi_mem l j hj'))
  by_cases h0 : 1 ≤ gi l j
  · rw [if_pos (by omega)]
  · rw [if_neg (by omega)]
    unfold part24
    rw [if_neg (by omega)]

end Go.Proofs.Ytgjnfajdejkkjaa.VG
