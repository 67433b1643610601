/-
  VG, part N: more rules: a whole block stored; cells loaded in a row.
-/
import Derived.Test.YtajkofndbeohpaaVgM
namespace Go.Proofs.Ytajkofndbeohpaa.VG
open Go
set_option linter.unusedSimpArgs false
set_option linter.unusedVariables false

theorem put_blk {b : Nat} {el : TypeId} : ∀ (l : List Value) (i : Nat) (w : World) (c : Array Value), w.heap[b]? = some (.cells c el (0, 0)) → i + l.length ≤ c.size →
    (putCells w ⟨b, 0, none⟩ i l).heap[b]? = some (.cells (c.toList.take i ++ l ++ c.toList.drop (i + l.length)).toArray el (0, 0)) ∧ Mod (fun k => k = b) w (putCells w ⟨b, 0, none⟩ i l) ∧ (putCells w ⟨b, 0, none⟩ i l).heap.size = w.heap.size
  | [], i, w, c, h, hl => by
    simp only [putCells, List.append_nil, List.length_nil, Nat.add_zero, List.take_append_drop]
    exact ⟨by simpa using h, Mod.refl _ _, trivial⟩
  | v :: r, i, w, c, h, hl => by
    simp only [List.length_cons] at hl
    have hb : (w.setCell ((⟨b, 0, none⟩ : Addr).add i) v).heap[b]? = some (.cells (c.setIfInBounds i v) el (0, 0)) := by
      simp only [add_mk, World.setCell, Array.getElem?_modify, if_true, h, Option.map_some]
      simp
    have hm : Mod (fun k => k = b) w (w.setCell ((⟨b, 0, none⟩ : Addr).add i) v) := ⟨rfl, rfl, rfl, by simp [World.setCell], fun k hk hn => by
      rw [add_mk]; exact RowKit.Below.heap_setCell w _ _ _ hn⟩
    obtain ⟨h1, h2, h3⟩ := put_blk r (i + 1) _ _ hb (by simp; omega)
    simp only [putCells]
    refine ⟨?_, hm.tr h2, by rw [h3]; simp [World.setCell]⟩
    rw [h1]
    have : List.take (i + 1) (c.setIfInBounds i v).toList ++ r ++ List.drop (i + 1 + r.length) (c.setIfInBounds i v).toList = List.take i c.toList ++ v :: r ++ List.drop (i + (r.length + 1)) c.toList := by
      rw [Array.toList_setIfInBounds]
      have hil : i < c.toList.length := by simp; omega
      rw [List.drop_set_of_lt (by omega), show i + 1 + r.length = i + (r.length + 1) by omega]
      congr 1
      rw [List.take_add_one, List.take_set, List.set_eq_of_length_le (by simp; omega)]
      simp only [List.append_assoc, List.append_cancel_left_eq]
      rw [List.getElem?_set_self hil]
      rfl
    rw [List.length_cons, this]

section
variable {P : Program} {Q : Exit → Env → World → Prop} {env : Env} {w : World} {k : S}
theorem blk_cut {id : Nat} {a : S} (J : Env → World → Prop) (ha : a.wp P (inBlk id J Q) env w) (hk : ∀ env w, J env w → k.wp P Q env w) : (S.blk id a k).wp P Q env w := by
  refine wp_weaken a ?_ ha
  intro x env w hq
  cases x with
  | normal => exact hk _ _ hq
  | exit i =>
    simp only [inBlk] at hq ⊢
    split
    · rename_i hi; rw [if_pos hi] at hq; exact hk _ _ hq
    · rename_i hi; rw [if_neg hi] at hq; exact hq
  | _ => exact hq

/-- A value of n cells, stored over a whole block. -/
theorem st_all {a e : E} {pr : List PrE} {b n : Nat} {c : Array Value} {el : TypeId} {v : Value} (ha : a.ev env w = .pointer (some ⟨b, 0, none⟩)) (he : e.ev env w = v) (h : w.heap[b]? = some (.cells c el (0, 0))) (hn : v.cells.size = n) (hc : c.size = n)
    (h1 : ∀ x ∈ v.cells.toList, one1 x = true) (hk : ∀ w', w'.heap[b]? = some (.cells v.cells el (0, 0)) → Mod (fun k => k = b) w w' → w'.heap.size = w.heap.size → promsOk pr env w w' ∧ k.wp P Q env w') :
    (S.st n a e pr k).wp P Q env w := by
  show storeWp n (a.ev env w) (e.ev env w) w _
  rw [ha, he]
  obtain ⟨q1, q2, q3⟩ := put_blk v.cells.toList 0 w c h (by simp; omega)
  refine ⟨trivial, hn, fun j hj => ?_, h1, hk _ ?_ q2 q3⟩
  · simp only [asA, add_mk, cell_blk h, frozen_blk h]
    exact ⟨by simp; omega, trivial⟩
  · simp only [asA]
    rw [q1]
    have : List.drop (0 + v.cells.toList.length) c.toList = [] := by rw [List.drop_eq_nil_iff]; simp; omega
    rw [this]
    simp
end

end Go.Proofs.Ytajkofndbeohpaa.VG
