/-
  Wide numbers, rows compared: what the layers share.
-/
import Derived.Test.YtfanamibkgkaiaaDoorHq
import Derived.Test.YtfanamibkgkaiaaDoorIr
namespace Go.Proofs.YtfanamibkgkaiaaDoor.VG
open Go
set_option linter.unusedSimpArgs false
set_option linter.unusedVariables false
set_option maxRecDepth 20000

def wideB (x : Int) : Bool := decide (-1073741824 ≤ x) && decide (x < 1073741824)
theorem wideB_iff {x : Int} : wideB x = true ↔ -1073741824 ≤ x ∧ x < 1073741824 := by simp [wideB]
def allW (l : List Int) : Bool := l.all wideB
theorem allW_gi {l : List Int} (h : allW l = true) (i : Nat) (hi : i < l.length) : -1073741824 ≤ gi l i ∧ gi l i < 1073741824 :=
  wideB_iff.1 (List.all_eq_true.1 h _ (gi_mem l i hi))
theorem allW_take {l : List Int} {i : Nat} (h : allW (l.take i) = true) (hi : i < l.length) : allW (l.take (i + 1)) = wideB (gi l i) := by
  rw [gi_take_snoc l i hi, allW, List.all_append]
  simp only [allW] at h
  simp [h]
theorem allW_not {l : List Int} {i : Nat} (hi : i < l.length) (h : wideB (gi l i) = false) : allW l = false := by
  rw [← Bool.not_eq_true]
  intro h'
  have := List.all_eq_true.1 h' _ (gi_mem l i hi)
  rw [h] at this; cases this

theorem mul_bd {a b A B : Int} (h0 : -A ≤ a) (h1 : a ≤ A) (h2 : -B ≤ b) (h3 : b ≤ B) : -(A * B) ≤ a * b ∧ a * b ≤ A * B := by
  have h6 : (a * b).natAbs ≤ (A * B).natAbs := by
    rw [Int.natAbs_mul, Int.natAbs_mul]
    exact Nat.mul_le_mul (by omega) (by omega)
  have h7 : 0 ≤ A * B := Int.mul_nonneg (by omega) (by omega)
  omega

theorem mul_bd0 {a b A B : Int} (h0 : 0 ≤ a) (h1 : a ≤ A) (h2 : 0 ≤ b) (h3 : b ≤ B) : 0 ≤ a * b ∧ a * b ≤ A * B :=
  ⟨Int.mul_nonneg h0 h2, Int.mul_le_mul h1 h3 h2 (by omega)⟩

set_option maxRecDepth 20000 in
theorem slTI : SlT Tryd.prog 26 3 1 8 := ⟨by kernel_rfl, ⟨_, _, rfl, rfl, rfl, rfl, rfl⟩, by omega⟩
/-- A row of one's own, and an error. -/
def RowErr (w w' : World) (r : Value) (s : List Int × Int) : Prop := ∃ u, r = .tuple #[u, .int .i64 s.2] ∧ Hp w w' [.own 3 1 u s.1.length (intsV s.1)]
theorem RowErr.bad {w w' : World} {e : Int} (m : Mod none' w w') : RowErr w w' (.tuple #[.slice none 0 0, .int .i64 e]) ([], e) :=
  ⟨_, rfl, by simpa using (Hp.ofMod m).nilS (e := 3) (size := 1)⟩

end Go.Proofs.YtfanamibkgkaiaaDoor.VG
