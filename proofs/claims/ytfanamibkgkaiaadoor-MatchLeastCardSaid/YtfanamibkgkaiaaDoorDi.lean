/-
  Match: the least cost, place by place.
-/
import Derived.Test.YtfanamibkgkaiaaDoorDh
namespace Go.Proofs.YtfanamibkgkaiaaDoor.VG
open Go
set_option linter.unusedSimpArgs false
set_option linter.unusedVariables false
set_option maxRecDepth 20000

theorem putCells_off (b off : Nat) : ∀ (l : List Value) (i : Nat) (w : World), putCells w ⟨b, off, none⟩ i l = putCells w ⟨b, 0, none⟩ (off + i) l
  | [], i, w => rfl
  | v :: r, i, w => by
    simp only [putCells, add_mk, Nat.zero_add]
    rw [putCells_off b off r (i + 1)]
    rfl
theorem splice_take {α : Type} (c u : List α) (p q m : Nat) (hu : u.length = q) (hp : p + q ≤ m) (hm : m ≤ c.length) : (c.take p ++ u ++ c.drop (p + q)).take m = (c.take m).take p ++ u ++ (c.take m).drop (p + q) := by
  have hl : (c.take p ++ u).length = p + q := by simp [hu]; omega
  rw [List.take_append, List.take_of_length_le (by omega), hl, List.take_take, Nat.min_eq_left (by omega), List.drop_take]

section
variable {P : Program} {Q : Exit → Env → World → Prop} {env : Env} {w W : World} {k : S} {l : List It}
/-- An element of an own row of elements of any number of cells is set. -/
theorem setN_h {a ex : E} {pr : List PrE} {e : TypeId} {size : Nat} {v u : Value} {n i : Nat} {xs : List Value} (j : Nat) (h : Hp W w l) (hj : l[j]? = some (.own e size v n xs)) (hi : i < n)
    (ha : a.ev env w = .pointer (some ((slB v).add (i * size)))) (he : ex.ev env w = u) (hu : u.cells.size = size) (h1 : ∀ x ∈ u.cells.toList, one1 x = true)
    (hk : ∀ w', Hp W w' (l.set j (.own e size v n (xs.take (i * size) ++ u.cells.toList ++ xs.drop (i * size + size)))) → (pr = [] ∨ promsOk pr env w w') ∧ k.wp P Q env w') : (S.st size a ex pr k).wp P Q env w := by
  obtain ⟨F, ⟨hown, rfl⟩, hF, hup⟩ := h.upd j hj
  obtain ⟨hlen, hcase⟩ := hown
  rcases hcase with ⟨_, h0⟩ | ⟨g, cap, cur, rfl, hg0, hh, hn, hm, hs, ht⟩
  · omega
  have hB : slB (.slice (some ⟨g, 0, none⟩) n cap) = ⟨g, 0, none⟩ := rfl
  rw [hB, add_mk, Nat.zero_add] at ha
  have hin : i * size + size ≤ n * size := by
    have : (i + 1) * size ≤ n * size := Nat.mul_le_mul_right _ hi
    rwa [Nat.succ_mul] at this
  have hnc : n * size ≤ cur.size := by
    have : n * size ≤ cap * size := Nat.mul_le_mul_right _ hn
    omega
  have hul : u.cells.toList.length = size := by simpa using hu
  show storeWp size (a.ev env w) (ex.ev env w) w _
  rw [ha, he]
  obtain ⟨q1, q2, q3⟩ := put_blk u.cells.toList (i * size) w cur hh (by rw [hul]; omega)
  rw [hul] at q1
  have hnew : (cur.toList.take (i * size) ++ u.cells.toList ++ cur.toList.drop (i * size + size)).length = cur.size := by
    simp only [List.length_append, List.length_take, List.length_drop, hul, Array.length_toList]
    omega
  have hP : Hp W (putCells w ⟨g, i * size, none⟩ 0 u.cells.toList) (l.set j (.own e size (.slice (some ⟨g, 0, none⟩) n cap) n (xs.take (i * size) ++ u.cells.toList ++ xs.drop (i * size + size)))) := by
    rw [putCells_off, Nat.add_zero]
    refine hup _ _ (fun k => (Value.slice (some ⟨g, 0, none⟩) n cap).ownBlock = some k) (q2.mono fun k _ hk => by subst hk; rfl) ⟨⟨?_, .inr ⟨g, cap, _, rfl, hg0, q1, hn, hm, ?_, ?_⟩⟩, rfl⟩ (fun k hk => .inl hk)
    · simp only [List.length_append, List.length_take, List.length_drop, hul]
      omega
    · rw [List.size_toArray, hnew]; exact hs
    · rw [← ht]
      exact splice_take _ _ _ _ _ hul hin (by simpa using hnc)
  obtain ⟨p1, p2⟩ := hk _ hP
  refine ⟨trivial, hu, fun j hj => ?_, h1, ?_⟩
  · simp only [asA, add_mk, cell_blk hh, frozen_blk hh]
    exact ⟨by simp; omega, trivial⟩
  · refine ⟨?_, p2⟩
    rcases p1 with rfl | p1
    · trivial
    · exact p1
end

theorem toks_set : ∀ (T : List (Int × Int × Int)) (i : Nat) (t : Int × Int × Int), i < T.length → (toksV T).take (i * 3) ++ (tokV t).cells.toList ++ (toksV T).drop (i * 3 + 3) = toksV (T.set i t)
  | [], i, t, h => by simp at h
  | a :: r, 0, t, h => rfl
  | a :: r, i + 1, t, h => by
    have ih := toks_set r i t (by simpa using h)
    have e : toksV (a :: r) = tokC a ++ toksV r := by simp [toksV]
    have e2 : toksV ((a :: r).set (i + 1) t) = tokC a ++ toksV (r.set i t) := by simp [toksV]
    have hl : (tokC a).length = 3 := rfl
    rw [e, e2, ← ih, show (i + 1) * 3 = 3 + i * 3 by omega, show 3 + i * 3 + 3 = 3 + (i * 3 + 3) by omega]
    rw [List.take_append, List.drop_append, hl, List.take_of_length_le (by omega), List.drop_eq_nil_of_le (by omega)]
    simp [show 3 + i * 3 - 3 = i * 3 by omega, show 3 + (i * 3 + 3) - 3 = i * 3 + 3 by omega]

end Go.Proofs.YtfanamibkgkaiaaDoor.VG
