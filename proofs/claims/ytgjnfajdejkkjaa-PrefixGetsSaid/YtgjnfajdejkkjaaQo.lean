/-
  The law that no word begins another one.
-/
import Derived.Test.YtgjnfajdejkkjaaQn
namespace Go.Proofs.Ytgjnfajdejkkjaa.VG
open Go
set_option linter.unusedSimpArgs false
set_option linter.unusedVariables false
set_option maxRecDepth 20000

theorem suN_us : ∀ l : List Int, suN l ≤ 8388608 * usN l
  | [] => by simp [suN, usN]
  | x :: r => by
    have ih := suN_us r
    have e : suN (x :: r) = part24 x + suN r := by simp [suN]
    have hb := part24_bd x
    rw [e]
    by_cases h : 0 < x
    · have : usN (x :: r) = usN r + 1 := by simp [usN, h]
      rw [this]; omega
    · have h1 : usN (x :: r) = usN r := by simp [usN, h]
      have h2 : part24 x = 0 := by unfold part24; rw [if_neg h]
      rw [h1, h2]; omega
theorem full_parts {l : List Int} (h : fullB l = true) : l.length ≤ 1024 ∧ l.all okLen = true ∧ suN l ≤ 16777216 := by
  unfold fullB at h
  simp only [Bool.and_eq_true, decide_eq_true_eq] at h
  refine ⟨h.1.1.2, h.1.2, ?_⟩
  have h2 := h.2
  by_cases hu : usN l = 1
  · have := suN_us l
    omega
  · rw [if_neg hu] at h2
    simp at h2
    omega
theorem pos_of {l : List Int} {i : Nat} (hi : i < l.length) (h1 : 1 ≤ gi l i) (h2 : gi l i ≤ 24) : ∃ j, j < (rk l).length ∧ gnn (rk l) j = i := by
  have hm : i ∈ rk l := rkN_mem.2 ⟨hi, (gi l i).toNat - 1, by omega, by omega⟩
  obtain ⟨j, hj, e⟩ := List.mem_iff_getElem.1 hm
  exact ⟨j, hj, by rw [← gnn_get hj]; exact e⟩
theorem word_fits {l : List Int} (hf : fullB l = true) {i : Nat} (hi : i < l.length) : ∃ c : Nat, gi (cdW l) i = c ∧ c < 2 ^ (gi l i).toNat := by
  obtain ⟨hl, hall, hs⟩ := full_parts hf
  have hok := okLen_iff.1 (List.all_eq_true.1 hall _ (gi_mem l i hi))
  by_cases h0 : 1 ≤ gi l i
  · obtain ⟨j, hj, rfl⟩ := pos_of hi h0 hok.2
    obtain ⟨c, hc, hsh⟩ := word_at hl hj
    obtain ⟨a1, a2, a3⟩ := lnN_bd hj
    refine ⟨c, hc, ?_⟩
    rw [a3, Int.toNat_natCast]
    have hm := shS_mono l hj
    have ht := shS_all hall
    have hle : (c + 1) * 2 ^ (24 - lnN l j) ≤ 2 ^ lnN l j * 2 ^ (24 - lnN l j) := by
      rw [← Nat.pow_add, show lnN l j + (24 - lnN l j) = 24 by omega, Nat.add_mul, hsh, Nat.one_mul]
      have : (2 : Nat) ^ 24 = 16777216 := rfl
      omega
    exact Nat.le_of_mul_le_mul_right hle (Nat.two_pow_pos _)
  · refine ⟨0, ?_, Nat.two_pow_pos _⟩
    refine word_zero (fun hm => ?_) _ (Nat.le_refl _)
    obtain ⟨_, n, _, e⟩ := rkN_mem.1 hm
    omega
theorem words_apart {l : List Int} (hf : fullB l = true) {i k : Nat} (hi : i < l.length) (hk : k < l.length) (hne : i ≠ k) (h0 : 0 < gi l i) (hle : gi l i ≤ gi l k) {c d : Nat} (hc : gi (cdW l) i = c) (hd : gi (cdW l) k = d) :
    d / 2 ^ (gi l k - gi l i).toNat ≠ c := by
  obtain ⟨hl, hall, hs⟩ := full_parts hf
  have ok1 := okLen_iff.1 (List.all_eq_true.1 hall _ (gi_mem l i hi))
  have ok2 := okLen_iff.1 (List.all_eq_true.1 hall _ (gi_mem l k hk))
  obtain ⟨a, ha, rfl⟩ := pos_of hi (by omega) ok1.2
  obtain ⟨b, hb, rfl⟩ := pos_of hk (by omega) ok2.2
  obtain ⟨c', hc', sc⟩ := word_at hl ha
  obtain ⟨d', hd', sd⟩ := word_at hl hb
  obtain rfl : c' = c := by omega
  obtain rfl : d' = d := by omega
  obtain ⟨a1, a2, a3⟩ := lnN_bd ha
  obtain ⟨b1, b2, b3⟩ := lnN_bd hb
  rw [a3, b3] at hle ⊢
  rw [show ((lnN l b : Int) - lnN l a).toNat = lnN l b - lnN l a by omega]
  intro e
  rcases Nat.lt_trichotomy a b with h | h | h
  · have hm := shS_mono l h
    have hlt : d' < (c' + 1) * 2 ^ (lnN l b - lnN l a) := by
      rw [← e]
      have := Nat.lt_div_mul_add (a := d') (Nat.two_pow_pos (lnN l b - lnN l a))
      rw [Nat.add_mul, Nat.one_mul]
      exact this
    have h2 : d' * 2 ^ (24 - lnN l b) < (c' + 1) * 2 ^ (lnN l b - lnN l a) * 2 ^ (24 - lnN l b) := Nat.mul_lt_mul_of_pos_right hlt (Nat.two_pow_pos _)
    rw [Nat.mul_assoc, ← Nat.pow_add, show lnN l b - lnN l a + (24 - lnN l b) = 24 - lnN l a by omega, sd, Nat.add_mul, sc, Nat.one_mul] at h2
    omega
  · subst h
    exact hne rfl
  · have hm := shS_mono l h
    have hmo := lnN_mono h ha
    have heq : lnN l a = lnN l b := by omega
    rw [heq, Nat.sub_self, Nat.pow_zero, Nat.div_one] at e
    subst e
    rw [heq] at sc
    have := Nat.two_pow_pos (24 - lnN l b)
    omega

end Go.Proofs.Ytgjnfajdejkkjaa.VG
