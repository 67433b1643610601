/-
  Bits: the law BitsOctets.
-/
import Derived.Test.YtajkofndbeohpaaBf
import Derived.Test.YtajkofndbeohpaaLk
namespace Go.Proofs.Ytajkofndbeohpaa.VG
open Go
set_option linter.unusedSimpArgs false
set_option linter.unusedVariables false

theorem packB_cons8 (a b : List Bool) (h : a.length = 8) : packB (a ++ b) = ofB a :: packB b := by
  have e : ((a ++ b).length + 7) / 8 = (b.length + 7) / 8 + 1 := by rw [List.length_append, h]; omega
  unfold packB
  rw [e, List.range_succ_eq_map, List.map_cons, List.map_map]
  congr 1
  · unfold byteAt
    have : ((a ++ b).drop (8 * 0)).take 8 = a := by rw [Nat.mul_zero, List.drop_zero, ← h, List.take_left]
    rw [this, h]
    simp
  · apply List.map_congr_left
    intro j _
    unfold byteAt
    have : (a ++ b).drop (8 * (j + 1)) = b.drop (8 * j) := by
      rw [show 8 * (j + 1) = a.length + 8 * j by omega, ← List.drop_drop, List.drop_left]
    simp only [Function.comp, Nat.succ_eq_add_one, this]

/-- Bytes put by eight bits. -/
def octB (l : List Nat) : List Bool := l.flatMap fun x => toB x 8
theorem octB_len (l : List Nat) : (octB l).length = 8 * l.length := by
  induction l with
  | nil => rfl
  | cons x r ih => simp only [octB, List.flatMap_cons, List.length_append, toB_length, List.length_cons] at ih ⊢; omega
theorem octB_snoc (l : List Nat) (x : Nat) : octB (l ++ [x]) = octB l ++ toB x 8 := by simp [octB]
theorem packB_octB (l : List Nat) (h : ∀ x ∈ l, x < 256) : packB (octB l) = l := by
  induction l with
  | nil => rfl
  | cons x r ih =>
    have : octB (x :: r) = toB x 8 ++ octB r := by simp [octB]
    rw [this, packB_cons8 _ _ (toB_length _ _), ofB_toB, ih (fun y hy => h y (by simp [hy]))]
    rw [Nat.mod_eq_of_lt (by have := h x (by simp); omega)]
theorem take_snoc (l : List Nat) (i : Nat) (h : i < l.length) : l.take (i + 1) = l.take i ++ [l.getD i 0] := by
  rw [List.take_add_one, List.getD_eq_getElem?_getD, List.getElem?_eq_getElem h]
  rfl

theorem row_bytes {w : World} {a : Option Addr} {len cap : Nat} {zs : List Int}
    (h : (a = none ∧ len = 0 ∧ cap = 0 ∧ zs = []) ∨ ∃ x, a = some x ∧ len ≤ cap ∧ cap ≤ maxLen ∧ zs.length = cap ∧ (∀ i, i < zs.length → w.cell? (x.add i) = some (.int .u8 (zs.getD i 0))) ∧ ∀ n ∈ zs, (Lit.int .u8 n).wf = true) :
    ∃ l : List Nat, Rd (fun b => b < w.heap.size) w (.slice a len cap) l.length (bytesV l) ∧ (∀ x ∈ l, x < 256) ∧ l.length ≤ maxLen := by
  obtain ⟨hr, hl, hw, hm⟩ := Rd.of_row h
  refine ⟨(zs.take len).map Int.toNat, ?_, ?_, by rw [List.length_map, hl]; exact hm⟩
  · have : bytesV ((zs.take len).map Int.toNat) = (zs.take len).map (Value.int .u8) := by
      unfold bytesV
      rw [List.map_map]
      apply List.map_congr_left
      intro x hx
      obtain ⟨n, rfl, _⟩ := wf_u8 (hw x hx)
      rfl
    rw [this, List.length_map, hl]
    exact hr
  · intro x hx
    simp only [List.mem_map] at hx
    obtain ⟨y, hy, rfl⟩ := hx
    obtain ⟨n, rfl, h⟩ := wf_u8 (hw y hy)
    simpa using h

end Go.Proofs.Ytajkofndbeohpaa.VG
