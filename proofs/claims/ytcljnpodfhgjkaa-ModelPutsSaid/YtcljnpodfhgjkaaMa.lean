/-
  Blocks of integers by a function; stores of parts of a block.
-/
import Derived.Test.YtcljnpodfhgjkaaGb
namespace Go.Proofs.Ytcljnpodfhgjkaa.VG
open Go
set_option linter.unusedSimpArgs false
set_option linter.unusedVariables false
set_option maxRecDepth 20000

def cellsF (f : Nat → Int) (n : Nat) : Array Value := ((List.range n).map fun i => Value.int .i64 (f i)).toArray
theorem cellsF_size (f : Nat → Int) (n : Nat) : (cellsF f n).size = n := by simp [cellsF]
theorem cellsF_get (f : Nat → Int) {n o : Nat} (h : o < n) : (cellsF f n)[o]? = some (.int .i64 (f o)) := by simp [cellsF, h]
def upF (f : Nat → Int) (o : Nat) (x : Int) : Nat → Int := fun i => if i = o then x else f i
theorem upF_self (f : Nat → Int) (o : Nat) (x : Int) : upF f o x o = x := by simp [upF]
theorem upF_ne (f : Nat → Int) {o i : Nat} (x : Int) (h : i ≠ o) : upF f o x i = f i := by simp [upF, h]
theorem cellsF_set (f : Nat → Int) (n o : Nat) (x : Int) : (cellsF f n).setIfInBounds o (.int .i64 x) = cellsF (upF f o x) n := by
  apply Array.ext_getElem?
  intro i
  rw [Array.getElem?_setIfInBounds]
  by_cases hi : i < n
  · rw [cellsF_get _ hi, cellsF_get _ hi]
    by_cases ho : o = i
    · subst ho; simp [upF_self, cellsF_size, hi]
    · rw [if_neg ho, upF_ne f x (fun h => ho h.symm)]
  · rw [Array.getElem?_eq_none (by rw [cellsF_size]; omega), Array.getElem?_eq_none (by rw [cellsF_size]; omega)]
    split
    · split
      · rename_i h1 h2; rw [cellsF_size] at h2; omega
      · rfl
    · rfl
theorem putCells_shift {b : Nat} : ∀ (l : List Value) (o i : Nat) (w : World), putCells w ⟨b, o, none⟩ i l = putCells w ⟨b, 0, none⟩ (o + i) l
  | [], o, i, w => rfl
  | v :: r, o, i, w => by
    simp only [putCells, add_mk, Nat.zero_add]
    rw [putCells_shift r o (i + 1), Nat.add_assoc]
section
variable {P : Program} {Q : Exit → Env → World → Prop} {env : Env} {w W : World} {k : S} {l : List It}
/-- A value of n cells, stored at a place of a block. -/
theorem stN_h {a e : E} {pr : List PrE} {b o n : Nat} {c : Array Value} {v : Value} (j : Nat) (h : Hp W w l) (hj : l[j]? = some (.blk b c)) (ha : a.ev env w = .pointer (some ⟨b, o, none⟩)) (he : e.ev env w = v) (hn : v.cells.size = n) (hc : o + n ≤ c.size)
    (h1 : ∀ x ∈ v.cells.toList, one1 x = true) (hk : ∀ w', Hp W w' (l.set j (.blk b (c.toList.take o ++ v.cells.toList ++ c.toList.drop (o + n)).toArray)) → (pr = [] ∨ promsOk pr env w w') ∧ k.wp P Q env w') : (S.st n a e pr k).wp P Q env w := by
  obtain ⟨F, ⟨⟨el, hh⟩, rfl⟩, hF, hup⟩ := h.upd j hj
  show storeWp n (a.ev env w) (e.ev env w) w _
  rw [ha, he]
  obtain ⟨q1, q2, q3⟩ := put_blk v.cells.toList o w c hh (by simp; omega)
  have hlen : v.cells.toList.length = n := by simp [hn]
  rw [hlen] at q1
  have hsh := putCells_shift (b := b) v.cells.toList o 0 w
  rw [Nat.add_zero] at hsh
  rw [← hsh] at q1 q2 q3
  obtain ⟨p1, p2⟩ := hk _ (hup _ _ (fun k => k = b) q2 ⟨⟨el, q1⟩, rfl⟩ (fun k hk => .inl hk))
  refine ⟨trivial, hn, fun j hj => ?_, h1, ?_, p2⟩
  · simp only [asA, add_mk, cell_blk hh, frozen_blk hh]
    exact ⟨by simp; omega, trivial⟩
  · rcases p1 with rfl | p1
    · trivial
    · exact p1
end
def four (a b c d : Int) : Value := .agg #[.int .i64 a, .int .i64 b, .int .i64 c, .int .i64 d]
def up4 (f : Nat → Int) (o : Nat) (a b c d : Int) : Nat → Int := upF (upF (upF (upF f o a) (o + 1) b) (o + 2) c) (o + 3) d
theorem cellsF_set4 (f : Nat → Int) {n o : Nat} (h : o + 4 ≤ n) (a b c d : Int) : ((cellsF f n).toList.take o ++ (four a b c d).cells.toList ++ (cellsF f n).toList.drop (o + 4)).toArray = cellsF (up4 f o a b c d) n := by
  have e : (four a b c d).cells.toList = [.int .i64 a, .int .i64 b, .int .i64 c, .int .i64 d] := rfl
  rw [e]
  apply Array.ext'
  simp only [cellsF]
  apply List.ext_getElem?
  intro i
  rw [List.append_assoc, List.getElem?_append]
  simp only [List.length_take, List.length_map, List.length_range, Nat.min_eq_left (show o ≤ n by omega)]
  by_cases h1 : i < o
  · rw [if_pos h1, List.getElem?_take_of_lt h1]
    simp [show i < n by omega, up4, upF, show i ≠ o by omega, show i ≠ o + 1 by omega, show i ≠ o + 2 by omega, show i ≠ o + 3 by omega]
  rw [if_neg h1, List.getElem?_append]
  by_cases h2 : i < o + 4
  · obtain h | h | h | h : i = o ∨ i = o + 1 ∨ i = o + 2 ∨ i = o + 3 := by omega
    all_goals
      rw [h]
      simp [show o < n by omega, show o + 1 < n by omega, show o + 2 < n by omega, show o + 3 < n by omega, up4, upF]
  · rw [if_neg (by simp; omega), List.getElem?_drop]
    simp only [List.length_cons, List.length_nil]
    rw [show o + 4 + (i - o - 4) = i by omega]
    by_cases h3 : i < n
    · simp [h3, up4, upF, show i ≠ o by omega, show i ≠ o + 1 by omega, show i ≠ o + 2 by omega, show i ≠ o + 3 by omega]
    · simp [show ¬ i < n by omega]

end Go.Proofs.Ytcljnpodfhgjkaa.VG
