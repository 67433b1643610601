/-
  What laws are made of: numbers brought into bounds, a tape of numbers, samples of so many bits.
-/
import Derived.Test.YtgjnfajdejkkjaaCm
import Derived.Test.YtgjnfajdejkkjaaBw
import Derived.Test.YtgjnfajdejkkjaaBg
import Derived.Test.YtgjnfajdejkkjaaSi
namespace Go.Proofs.Ytgjnfajdejkkjaa.VG
open Go
set_option linter.unusedSimpArgs false
set_option linter.unusedVariables false
set_option maxRecDepth 20000

def p2 (d : Int) : Int := ((2 ^ d.toNat : Nat) : Int)
theorem p2_bd {d : Int} (h : d ≤ 16) : 1 ≤ p2 d ∧ p2 d ≤ 65536 := by
  have h1 : 2 ^ d.toNat ≤ 2 ^ 16 := Nat.pow_le_pow_right (by omega) (by omega)
  have h2 := Nat.two_pow_pos d.toNat
  unfold p2; omega
theorem shl_p2 {d : Int} (h0 : 0 ≤ d) (h : d ≤ 62) : shl .i64 1 d = p2 d := by
  obtain ⟨D, rfl⟩ : ∃ D : Nat, d = D := ⟨d.toNat, by omega⟩
  have h1 : 2 ^ D ≤ 2 ^ 62 := Nat.pow_le_pow_right (by omega) (by omega)
  have h2 := Nat.two_pow_pos D
  rw [shl_int _ _ _ (by simp only [IntKind.bits]; omega), Int.one_mul]
  unfold p2
  rw [Int.toNat_natCast]
  exact wI (by omega) (by omega)
theorem p2_two {d : Int} (h : 1 ≤ d) : p2 d = 2 * p2 (d - 1) := by
  obtain ⟨D, rfl⟩ : ∃ D : Nat, d = ((D + 1 : Nat) : Int) := ⟨(d - 1).toNat, by omega⟩
  unfold p2
  rw [show (((D + 1 : Nat) : Int) - 1).toNat = D by omega, Int.toNat_natCast, Nat.pow_succ]
  omega
theorem and_p2 (v : Int) {d : Int} (h0 : 0 ≤ d) (h : d ≤ 16) : bitw .and .i64 v (p2 d - 1) = v % p2 d := by
  have h1 := p2_bd h
  have := and_m v d.toNat (by omega)
  have e : p2 d - 1 = ((2 ^ d.toNat - 1 : Nat) : Int) := by unfold p2 at *; omega
  rw [e, this]; rfl
theorem mod_bd (v : Int) {d : Int} (h : d ≤ 16) : 0 ≤ v % p2 d ∧ v % p2 d < p2 d := by
  have h1 := p2_bd h
  exact ⟨Int.emod_nonneg _ (by omega), Int.emod_lt_of_pos _ (by omega)⟩
def dep (d : Int) : Bool := decide (1 ≤ d) && decide (d ≤ 16)
theorem dep_iff {d : Int} : dep d = true ↔ 1 ≤ d ∧ d ≤ 16 := by simp [dep]
def wrapI (v d : Int) : Int := if dep d = true then v % p2 d else 0
def foldI (v d : Int) : Int := if dep d = true then (if p2 (d - 1) ≤ v % p2 d then v % p2 d - p2 d else v % p2 d) else 0
theorem wrap_bd (v : Int) {d : Int} (h : dep d = true) : 0 ≤ wrapI v d ∧ wrapI v d < p2 d := by
  rw [wrapI, if_pos h]; exact mod_bd v (dep_iff.1 h).2

def withI (n lo hi : Int) : Int := if lo ≤ n ∧ n ≤ hi then n else lo + n % (hi - lo + 1)
theorem with_bd {n lo hi : Int} (h : lo ≤ hi) : lo ≤ withI n lo hi ∧ withI n lo hi ≤ hi := by
  unfold withI
  split
  · assumption
  · have h1 := Int.emod_nonneg n (show hi - lo + 1 ≠ 0 by omega)
    have h2 := Int.emod_lt_of_pos n (show 0 < hi - lo + 1 by omega)
    omega
theorem tmod_up {n m : Int} (hm : 0 < m) : (if n.tmod m < 0 then n.tmod m + m else n.tmod m) = n % m := by
  have h1 := Int.emod_nonneg n (show m ≠ 0 by omega)
  have h2 := Int.emod_lt_of_pos n hm
  rw [Int.tmod_eq_emod]
  split <;> split <;> omega
theorem tmod_bd {n m : Int} (hm : 0 < m) : -m < n.tmod m ∧ n.tmod m < m := by
  have h1 := Int.emod_nonneg n (show m ≠ 0 by omega)
  have h2 := Int.emod_lt_of_pos n hm
  rw [Int.tmod_eq_emod]
  split <;> omega

theorem intsV_zeros (n : Nat) : (madeCells (Value.int .i64 0).cells (n * 1)).toList = intsV (List.replicate n 0) := by
  apply List.ext_getElem
  · simp [size_madeCells, intsV]
  · intro i h1 h2
    simp [madeCells, intsV, Value.cells, Nat.mod_one]
theorem zero64 {z : Value} (h : ∃ i, Try.prog.info? 3 = some i ∧ i.zero = some z) : z = .int .i64 0 := by
  obtain ⟨i, hi, hz⟩ := h
  obtain ⟨j, h3, h4⟩ : ∃ j, Try.prog.info? 3 = some j ∧ j.zero = some (.int .i64 0) := ⟨_, rfl, rfl⟩
  rw [h3] at hi
  cases hi
  rw [h4] at hz
  cases hz
  rfl

end Go.Proofs.Ytgjnfajdejkkjaa.VG
