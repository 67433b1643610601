/-
  Rice: rows put as bits (and what goes with it: parts Rc Rd Re).
-/
import Derived.Test.YtgjnfajdejkkjaaRb
import Derived.Test.YtgjnfajdejkkjaaHo

/-! ## Rice: rows put as bits. -/
namespace Go.Proofs.Ytgjnfajdejkkjaa.VG
open Go
set_option linter.unusedSimpArgs false
set_option linter.unusedVariables false
set_option maxRecDepth 20000

def riceB (K : Nat) (x : Int) : List Bool := if foldN x / 2 ^ K < 32 then List.replicate (foldN x / 2 ^ K) false ++ [true] ++ toB (foldN x % 2 ^ K) K else List.replicate 32 false ++ [true] ++ toB (foldN x) 32
def riceBs (K : Nat) (l : List Int) : List Bool := l.flatMap (riceB K)
theorem riceB_len {K : Nat} (hK : K ≤ 25) {x : Int} (hx : wideB x = true) : ((riceB K x).length : Int) = costI K x := by
  have hp : paramB (K : Int) = true := paramB_iff.2 (by omega)
  unfold riceB costI quoN
  rw [hp, hx, Int.toNat_natCast]
  simp only [Bool.and_self, if_true]
  by_cases h : foldN x / 2 ^ K < 32
  · rw [if_pos h, if_pos h]; simp [toB_length, -Int.natCast_ediv, -Int.natCast_pow]; omega
  · rw [if_neg h, if_neg h]; simp [toB_length]
theorem riceB_le {K : Nat} (hK : K ≤ 25) (x : Int) : (riceB K x).length ≤ 65 := by
  unfold riceB
  split <;> simp [toB_length] <;> omega
theorem riceBs_le {K : Nat} (hK : K ≤ 25) (l : List Int) : (riceBs K l).length ≤ 65 * l.length := by
  induction l with
  | nil => simp [riceBs]
  | cons x r ih => simp only [riceBs, List.flatMap_cons, List.length_append, List.length_cons] at ih ⊢; have := riceB_le hK x; omega
theorem riceBs_take (K : Nat) (l : List Int) (i : Nat) (h : i < l.length) : riceBs K (l.take (i + 1)) = riceBs K (l.take i) ++ riceB K (gi l i) := by
  rw [gi_take_snoc l i h]; simp [riceBs]
theorem riceBs_app (K : Nat) (l m : List Int) : riceBs K (l ++ m) = riceBs K l ++ riceBs K m := by simp [riceBs]

theorem low_sub (u K : Nat) (hu : u < 2147483648) (hK : K ≤ 25) : IntKind.u64.wrap ((u : Int) - shl .u64 ((u / 2 ^ K : Nat) : Int) (K : Int)) = ((u % 2 ^ K : Nat) : Int) := by
  have h1 := Nat.div_mul_le_self u (2 ^ K)
  have h2 := Nat.mod_add_div u (2 ^ K)
  rw [Nat.mul_comm] at h2
  have e : shl .u64 ((u / 2 ^ K : Nat) : Int) (K : Int) = ((u / 2 ^ K * 2 ^ K : Nat) : Int) := by
    rw [shl_nat _ _ _ (by simp only [IntKind.bits]; omega)]
    exact wrap_nat_u64 (by omega)
  rw [e]
  generalize u / 2 ^ K * 2 ^ K = q at *
  rw [wrap_u64 (by omega) (by omega)]
  omega

end Go.Proofs.Ytgjnfajdejkkjaa.VG

/-! ## Rice: rows got from bits. -/
namespace Go.Proofs.Ytgjnfajdejkkjaa.VG
open Go
set_option linter.unusedSimpArgs false
set_option linter.unusedVariables false
set_option maxRecDepth 20000

/-- One residual: it and its error, where the reader is, its error. -/
def oneS (l : List Nat) (p K : Nat) : (Int × Int) × Nat × Int :=
  if (rUnary l p 0 32).2.2 ≠ 0 then ((0, (rUnary l p 0 32).2.2), (rUnary l p 0 32).2)
  else if (rUnary l p 0 32).1 < 32 then
    ((unfI ((rUnary l p 0 32).1 * 2 ^ K + (rGet l (rUnary l p 0 32).2.1 0 K).1), (rGet l (rUnary l p 0 32).2.1 0 K).2.2), (rGet l (rUnary l p 0 32).2.1 0 K).2)
  else if (rGet l (rUnary l p 0 32).2.1 0 32).2.2 ≠ 0 then ((0, (rGet l (rUnary l p 0 32).2.1 0 32).2.2), (rGet l (rUnary l p 0 32).2.1 0 32).2)
  else if 2147483648 ≤ (rGet l (rUnary l p 0 32).2.1 0 32).1 ∨ (rGet l (rUnary l p 0 32).2.1 0 32).1 / 2 ^ K < 32 then ((0, 2), (rGet l (rUnary l p 0 32).2.1 0 32).2)
  else ((unfI (rGet l (rUnary l p 0 32).2.1 0 32).1, 0), (rGet l (rUnary l p 0 32).2.1 0 32).2)
def getF (l : List Nat) (K : Nat) : Nat → Nat → List Int → (List Int × Int) × Nat × Int
  | 0, p, out => ((out, 0), p, 0)
  | n + 1, p, out => if (oneS l p K).1.2 ≠ 0 then (([], (oneS l p K).1.2), (oneS l p K).2) else getF l K n (oneS l p K).2.1 (out ++ [(oneS l p K).1.1])
def getS (l : List Nat) (p : Nat) (e k n : Int) : (List Int × Int) × Nat × Int :=
  if paramB k = false ∨ n < 0 ∨ 4194304 < n then (([], 1), p, e) else if e ≠ 0 then (([], e), p, e) else getF l k.toNat n.toNat p []

theorem getF_len (l : List Nat) (K : Nat) : ∀ n p out, (getF l K n p out).1.1.length ≤ out.length + n
  | 0, p, out => by simp [getF]
  | n + 1, p, out => by
    simp only [getF]
    split
    · simp
    · have := getF_len l K n (oneS l p K).2.1 (out ++ [(oneS l p K).1.1])
      simp at this
      omega
theorem getS_len (l : List Nat) (p : Nat) (e k n : Int) : (getS l p e k n).1.1.length ≤ 4194304 := by
  unfold getS
  split
  · simp
  rename_i h
  split
  · simp
  · have := getF_len l k.toNat n.toNat p []
    simp at this
    omega

theorem unF_bd (l : List Nat) (p m : Nat) : ∀ f z, z ≤ m → (unF l p m f z).1 ≤ m
  | 0, z, h => by simp [unF]
  | f + 1, z, h => by
    simp only [unF]
    split
    · simp
    split
    · exact h
    split
    · simp
    · exact unF_bd l p m f (z + 1) (by omega)
theorem rUnary_bd (l : List Nat) (p : Nat) (e : Int) (most : Int) : (rUnary l p e most).1 ≤ most.toNat := by
  unfold rUnary
  split
  · simp
  · exact unF_bd l p _ _ 0 (by omega)
theorem rGet_lt (l : List Nat) (p : Nat) (e : Int) (n : Nat) : (rGet l p e n).1 < 2 ^ n := by
  have := Nat.two_pow_pos n
  unfold rGet
  split
  · exact this
  split
  · exact this
  split
  · exact this
  · have := ofB_lt (rbits l p (n : Int).toNat)
    rw [rbits_length] at this
    simpa using this

theorem oneS_ok {l : List Nat} {p K : Nat} (h : (oneS l p K).1.2 = 0) : (oneS l p K).2.2 = 0 := by
  unfold oneS at *
  split
  · rename_i h1; rw [if_pos h1] at h; exact h
  rename_i h1; rw [if_neg h1] at h
  split
  · rename_i h2; rw [if_pos h2] at h; exact h
  rename_i h2; rw [if_neg h2] at h
  split
  · rename_i h3; rw [if_pos h3] at h; exact h
  rename_i h3; rw [if_neg h3] at h
  split
  · rename_i h4; rw [if_pos h4] at h; simp at h
  · simpa using h3

theorem shlq (q K : Nat) (hq : q < 32) (hK : K ≤ 25) : shl .u64 (q : Int) (K : Int) = ((q * 2 ^ K : Nat) : Int) ∧ q * 2 ^ K < 1073741824 := by
  have h2 : 2 ^ K ≤ 2 ^ 25 := Nat.pow_le_pow_right (by omega) hK
  have h3 : q * 2 ^ K ≤ 31 * 2 ^ 25 := Nat.mul_le_mul (by omega) h2
  refine ⟨?_, by omega⟩
  rw [shl_nat _ _ _ (by simp only [IntKind.bits]; omega)]
  exact wrap_nat_u64 (by omega)

end Go.Proofs.Ytgjnfajdejkkjaa.VG

/-! ## Rice: the document's Get. -/
namespace Go.Proofs.Ytgjnfajdejkkjaa.VG
open Go
set_option linter.unusedSimpArgs false
set_option linter.unusedVariables false
set_option maxRecDepth 20000

theorem or_low (q K low : Nat) (hq : q < 32) (hK : K ≤ 25) (hl : low < 2 ^ K) : bitw .or .u64 ((q * 2 ^ K : Nat) : Int) (low : Int) = ((q * 2 ^ K + low : Nat) : Int) := by
  have h2 : 2 ^ K ≤ 2 ^ 25 := Nat.pow_le_pow_right (by omega) hK
  have h3 : q * 2 ^ K ≤ 31 * 2 ^ 25 := Nat.mul_le_mul (by omega) h2
  rw [bitw_or (by simp only [IntKind.bits]; omega) (by simp only [IntKind.bits]; omega), Nat.mul_comm q, ← Nat.two_pow_add_eq_or_of_lt hl]
  rw [Nat.mul_comm] at h3
  exact wrap_nat_u64 (by omega)

end Go.Proofs.Ytgjnfajdejkkjaa.VG
