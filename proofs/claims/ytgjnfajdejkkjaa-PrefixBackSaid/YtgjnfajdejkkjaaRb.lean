/-
  Rice: plain; folding, costs: what each call comes to (and what goes with it: parts Ra Rb).
-/
import Derived.Test.YtgjnfajdejkkjaaCm

/-! ## Rice: plain; folding, costs: what each call comes to. -/
namespace Go.Proofs.Ytgjnfajdejkkjaa.VG
open Go
set_option linter.unusedSimpArgs false
set_option linter.unusedVariables false
set_option maxRecDepth 20000

def foldN (x : Int) : Nat := if wideB x then (if 0 ≤ x then (2 * x).toNat else (-2 * x - 1).toNat) else 0
def unfI (u : Nat) : Int := if 2147483648 ≤ u then 0 else if u % 2 = 0 then ((u / 2 : Nat) : Int) else -((u / 2 : Nat) : Int) - 1
def paramB (k : Int) : Bool := decide (0 ≤ k) && decide (k ≤ 25)
theorem paramB_iff {k : Int} : paramB k = true ↔ 0 ≤ k ∧ k ≤ 25 := by simp [paramB]
theorem foldN_lt (x : Int) : foldN x < 2147483648 := by
  unfold foldN
  split
  · rename_i h
    have := wideB_iff.1 h
    split <;> omega
  · omega
theorem foldN_pos {x : Int} (h : wideB x = true) (h0 : 0 ≤ x) : (foldN x : Int) = 2 * x := by rw [foldN, if_pos h, if_pos h0]; omega
theorem foldN_neg {x : Int} (h : wideB x = true) (h0 : ¬ 0 ≤ x) : (foldN x : Int) = -2 * x - 1 := by rw [foldN, if_pos h, if_neg h0]; omega
theorem foldN_zero {x : Int} (h : wideB x = false) : foldN x = 0 := by rw [foldN, h]; rfl
theorem unf_fold {x : Int} (h : wideB x = true) : unfI (foldN x) = x := by
  have h1 := foldN_lt x
  unfold unfI
  rw [if_neg (by omega)]
  by_cases h0 : 0 ≤ x
  · have := foldN_pos h h0
    rw [if_pos (by omega)]; omega
  · have := foldN_neg h h0
    rw [if_neg (by omega)]; omega
theorem fold_unf {u : Nat} (h : u < 2147483648) : wideB (unfI u) = true ∧ foldN (unfI u) = u := by
  have hw : wideB (unfI u) = true := by
    rw [wideB_iff]; unfold unfI; rw [if_neg (by omega)]
    split <;> omega
  refine ⟨hw, ?_⟩
  have e : unfI u = if u % 2 = 0 then ((u / 2 : Nat) : Int) else -((u / 2 : Nat) : Int) - 1 := by rw [unfI, if_neg (by omega)]
  by_cases h2 : u % 2 = 0
  · rw [if_pos h2] at e
    have := foldN_pos hw (by omega)
    omega
  · rw [if_neg h2] at e
    have := foldN_neg hw (by omega)
    omega

theorem xor_u (x : Nat) (h : x < 18446744073709551616) : bitw .xor .u64 18446744073709551615 (x : Int) = ((18446744073709551615 - x : Nat) : Int) := by
  show IntKind.u64.wrap ((BitVec.ofInt 64 18446744073709551615 ^^^ BitVec.ofInt 64 (x : Int)).toNat : Int) = _
  have e : BitVec.ofInt 64 18446744073709551615 = BitVec.allOnes 64 := by decide
  rw [e]
  have e2 : (BitVec.allOnes 64 ^^^ BitVec.ofInt 64 (x : Int)).toNat = 18446744073709551615 - x := by
    rw [ofInt_nat]
    have : BitVec.allOnes 64 ^^^ BitVec.ofNat 64 x = ~~~ (BitVec.ofNat 64 x) := BitVec.allOnes_xor
    show (BitVec.allOnes 64 ^^^ BitVec.ofNat 64 x).toNat = _
    rw [this, BitVec.toNat_not, BitVec.toNat_ofNat, Nat.mod_eq_of_lt (by omega)]
  rw [e2]
  exact wrap_nat_u64 (by omega)
theorem xor_i (x : Nat) (h : x < 9223372036854775808) : bitw .xor .i64 (-1) (x : Int) = -(x : Int) - 1 := by
  show IntKind.i64.wrap ((BitVec.ofInt 64 (-1) ^^^ BitVec.ofInt 64 (x : Int)).toNat : Int) = _
  have e : BitVec.ofInt 64 (-1) = BitVec.allOnes 64 := by decide
  rw [e]
  have e2 : (BitVec.allOnes 64 ^^^ BitVec.ofInt 64 (x : Int)).toNat = 18446744073709551615 - x := by
    rw [ofInt_nat]
    have : BitVec.allOnes 64 ^^^ BitVec.ofNat 64 x = ~~~ (BitVec.ofNat 64 x) := BitVec.allOnes_xor
    show (BitVec.allOnes 64 ^^^ BitVec.ofNat 64 x).toNat = _
    rw [this, BitVec.toNat_not, BitVec.toNat_ofNat, Nat.mod_eq_of_lt (by omega)]
  rw [e2]
  unfold IntKind.wrap IntKind.bits IntKind.signed
  simp only [Bool.true_and, decide_eq_true_eq]
  split <;> omega
theorem maxU : IntKind.u64.max = 18446744073709551615 := by decide
theorem sgnU : IntKind.u64.signed = false := rfl
theorem sgnI' : IntKind.i64.signed = true := rfl

/-! ### Costs -/
def quoN (k : Int) (x : Int) : Nat := foldN x / 2 ^ k.toNat
def costI (k x : Int) : Int := if paramB k && wideB x then (if quoN k x < 32 then (quoN k x : Int) + 1 + k else 65) else 0
theorem quoN_le (k x : Int) : quoN k x < 2147483648 := Nat.lt_of_le_of_lt (Nat.div_le_self _ _) (foldN_lt x)
theorem costI_bd (k x : Int) : 0 ≤ costI k x ∧ costI k x ≤ 65 := by
  unfold costI
  split
  · rename_i h
    rw [Bool.and_eq_true, paramB_iff] at h
    split <;> omega
  · omega
theorem shrK (u : Nat) (k : Int) (h0 : 0 ≤ k) (h1 : k ≤ 25) : shr .u64 (u : Int) k = ((u / 2 ^ k.toNat : Nat) : Int) := by
  obtain ⟨K, rfl⟩ : ∃ K : Nat, k = K := ⟨k.toNat, by omega⟩
  exact shr_nat .u64 u K (by simp only [IntKind.bits]; omega)

end Go.Proofs.Ytgjnfajdejkkjaa.VG

/-! ## Rice: sums, the best parameter: what each call comes to. -/
namespace Go.Proofs.Ytgjnfajdejkkjaa.VG
open Go
set_option linter.unusedSimpArgs false
set_option linter.unusedVariables false
set_option maxRecDepth 20000

def sumTo (k : Int) (l : List Int) : Nat → Int
  | 0 => 0
  | i + 1 => sumTo k l i + costI k (gi l i)
def sumI (k : Int) (l : List Int) : Int := sumTo k l l.length
theorem sumTo_bd (k : Int) (l : List Int) : ∀ i : Nat, 0 ≤ sumTo k l i ∧ sumTo k l i ≤ 65 * (i : Int)
  | 0 => by simp [sumTo]
  | i + 1 => by
    have h1 := sumTo_bd k l i
    have h2 := costI_bd k (gi l i)
    simp only [sumTo]; omega
def bestF (l : List Int) : Nat → Nat × Int
  | 0 => (0, sumI 0 l)
  | i + 1 => if sumI ((i + 1 : Nat) : Int) l < (bestF l i).2 then (i + 1, sumI ((i + 1 : Nat) : Int) l) else bestF l i
def bestN (l : List Int) : Nat := (bestF l 25).1
theorem bestF_sum (l : List Int) : ∀ i, (bestF l i).2 = sumI ((bestF l i).1 : Int) l
  | 0 => rfl
  | i + 1 => by
    simp only [bestF]
    split
    · rfl
    · exact bestF_sum l i
theorem bestF_le (l : List Int) : ∀ i, (bestF l i).1 ≤ i
  | 0 => Nat.le_refl _
  | i + 1 => by
    simp only [bestF]
    split
    · exact Nat.le_refl _
    · have := bestF_le l i; omega
theorem bestF_least (l : List Int) : ∀ i k : Nat, k ≤ i → (bestF l i).2 ≤ sumI (k : Int) l ∧ (k < (bestF l i).1 → (bestF l i).2 < sumI (k : Int) l)
  | 0, k, h => by
    obtain rfl : k = 0 := by omega
    exact ⟨Int.le_refl _, fun h => by simp [bestF] at h⟩
  | i + 1, k, h => by
    simp only [bestF]
    split
    · rename_i hlt
      by_cases hk : k = i + 1
      · subst hk; exact ⟨Int.le_refl _, fun h => by simp at h⟩
      · have := (bestF_least l i k (by omega)).1
        exact ⟨by show sumI _ _ ≤ _; omega, fun _ => by show sumI _ _ < _; omega⟩
    · rename_i hlt
      by_cases hk : k = i + 1
      · subst hk
        have := bestF_le l i
        exact ⟨by omega, fun h => by omega⟩
      · exact bestF_least l i k (by omega)

end Go.Proofs.Ytgjnfajdejkkjaa.VG
