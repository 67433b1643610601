/-
  Bits: the law BitsBack; the steps of an argument.
-/
import Derived.Test.YtajkofndbeohpaaBg
import Derived.Test.YtajkofndbeohpaaHp
import Derived.Test.YtajkofndbeohpaaOp
namespace Go.Proofs.Ytajkofndbeohpaa.VG
open Go
set_option linter.unusedSimpArgs false
set_option linter.unusedVariables false

structure Act where
  what : Int
  v : Nat
  n : Int
def Act.cells (a : Act) : List Value := [.int .i64 a.what, .int .u64 a.v, .int .i64 a.n]
def Act.fits (a : Act) : Prop := a.v < 18446744073709551616 ∧ -9223372036854775808 ≤ a.n ∧ a.n ≤ 9223372036854775807

theorem flat_get {α : Type} (f : α → List Value) (size : Nat) (hl : ∀ a, (f a).length = size) : ∀ (xs : List α) (i j : Nat), j < size → (xs.map f).flatten[i * size + j]? = xs[i]?.bind fun a => (f a)[j]?
  | [], i, j, h => by simp
  | a :: r, 0, j, h => by
    rw [List.map_cons, List.flatten_cons, Nat.zero_mul, Nat.zero_add, List.getElem?_append_left (by rw [hl]; exact h)]
    rfl
  | a :: r, i + 1, j, h => by
    rw [List.map_cons, List.flatten_cons, List.getElem?_append_right (by rw [hl, Nat.add_mul]; omega), hl, show (i + 1) * size + j - size = i * size + j by rw [Nat.add_mul]; omega, flat_get f size hl r i j h]
    rfl

/-! ### Plain -/
def actK (a : Act) : Nat := (a.n % 64).toNat
theorem actK_lt (a : Act) : actK a < 64 := by unfold actK; omega
def actB (a : Act) : List Bool := if a.what = 1 then List.replicate (actK a) false ++ [true] else toB (lowN a.v (actK a)) (actK a)
theorem actB_len (a : Act) : (actB a).length = if a.what = 1 then actK a + 1 else actK a := by
  unfold actB; split <;> simp [toB_length]
theorem actB_le (a : Act) : (actB a).length ≤ 64 := by
  rw [actB_len]; have := actK_lt a; split <;> omega
def actsB (xs : List Act) : List Bool := xs.flatMap actB
theorem actsB_le (xs : List Act) : (actsB xs).length ≤ 64 * xs.length := by
  induction xs with
  | nil => simp [actsB]
  | cons x r ih => simp only [actsB, List.flatMap_cons, List.length_append, List.length_cons] at ih ⊢; have := actB_le x; omega
theorem actsB_take (xs : List Act) (i : Nat) (x : Act) (h : xs[i]? = some x) : actsB (xs.take (i + 1)) = actsB (xs.take i) ++ actB x := by
  rw [List.take_add_one, h]; simp [actsB]
theorem actsB_split (xs : List Act) (i : Nat) (x : Act) (h : xs[i]? = some x) : ∃ r, actsB xs = actsB (xs.take i) ++ actB x ++ r := by
  refine ⟨actsB (xs.drop (i + 1)), ?_⟩
  rw [← actsB_take xs i x h]
  unfold actsB
  rw [← List.flatMap_append, List.take_append_drop]

theorem rAlign_end (bs : List Bool) : rAlign (packB bs) bs.length 0 = (8 * (packB bs).length, 0) := by
  have hl := packB_length bs
  unfold rAlign
  rw [if_neg (by simp)]
  have h1 : (List.range (rEnd bs.length - bs.length)).any (fun j => rdb (packB bs) (bs.length + j)) = false := by
    rw [List.any_eq_false]
    intro j _
    rw [rdb_pack, List.getD_eq_getElem?_getD, List.getElem?_eq_none (by omega)]
    simp
  rw [h1]
  simp [rEnd, hl]
  omega

end Go.Proofs.Ytajkofndbeohpaa.VG
