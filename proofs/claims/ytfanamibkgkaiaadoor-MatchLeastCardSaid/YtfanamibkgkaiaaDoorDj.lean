/-
  Match: the least cost of a place.
-/
import Derived.Test.YtfanamibkgkaiaaDoorDi
namespace Go.Proofs.YtfanamibkgkaiaaDoor.VG
open Go
set_option linter.unusedSimpArgs false
set_option linter.unusedVariables false
set_option maxRecDepth 20000

def mapR (f : Nat → Int) (n : Nat) : List Int := (List.range n).map f
theorem mapR_len (f : Nat → Int) (n : Nat) : (mapR f n).length = n := by simp [mapR]
theorem mapR_gi (f : Nat → Int) (n i : Nat) (h : i < n) : gi (mapR f n) i = f i := by simp [gi, mapR, h]
theorem mapR_set (f : Nat → Int) (n i : Nat) (v : Int) : (mapR f n).set i v = mapR (fun j => if j = i then v else f j) n := by
  apply List.ext_getElem
  · simp [mapR]
  · intro j h1 h2
    simp only [mapR, List.getElem_set, List.getElem_map, List.getElem_range]
    by_cases hj : i = j
    · rw [if_pos hj, if_pos hj.symm]
    · rw [if_neg hj, if_neg (fun h => hj h.symm)]
theorem mapR_zero (n : Nat) : List.replicate n 0 = mapR (fun _ => 0) n := by
  apply List.ext_getElem
  · simp [mapR]
  · intro j h1 h2; simp [mapR]
theorem mapR_congr {f g : Nat → Int} {n : Nat} (h : ∀ j, j < n → f j = g j) : mapR f n = mapR g n := List.map_congr_left fun j hj => h j (by simpa using hj)

/-- The best of a literal and of copies of at most m samples: its cost, its length. -/
def bp (f : Nat → Int) (c : Int) : Nat → Int × Nat
  | 0 => (c, 0)
  | m + 1 => if 3 ≤ m + 1 ∧ f (m + 1) ≤ (bp f c m).1 then (f (m + 1), m + 1) else bp f c m
theorem bp_small (f : Nat → Int) (c : Int) : ∀ m, m < 3 → bp f c m = (c, 0)
  | 0, _ => rfl
  | m + 1, h => by rw [bp, if_neg (by omega)]; exact bp_small f c m (by omega)
theorem bp_le (f : Nat → Int) (c : Int) : ∀ m, (bp f c m).1 ≤ c ∧ (bp f c m).2 ≤ m ∧ ((bp f c m).2 = 0 ∨ 3 ≤ (bp f c m).2)
  | 0 => by simp [bp]
  | m + 1 => by
    have ih := bp_le f c m
    rw [bp]
    split
    · rename_i h
      exact ⟨by simp; omega, by simp, .inr h.1⟩
    · exact ⟨ih.1, by omega, ih.2.2⟩
theorem bp_nonneg {f : Nat → Int} {c : Int} (hc : 0 ≤ c) (hf : ∀ n, 0 ≤ f n) : ∀ m, 0 ≤ (bp f c m).1
  | 0 => hc
  | m + 1 => by
    rw [bp]
    split
    · exact hf _
    · exact bp_nonneg hc hf m
theorem bp_min {f : Nat → Int} {c : Int} : ∀ {m j : Nat}, 3 ≤ j → j ≤ m → (bp f c m).1 ≤ f j
  | 0, j, h3, hj => by omega
  | m + 1, j, h3, hj => by
    rw [bp]
    by_cases e : j = m + 1
    · subst e
      split
      · exact Int.le_refl _
      · rename_i h
        by_cases h' : f (m + 1) ≤ (bp f c m).1
        · exact absurd ⟨h3, h'⟩ h
        · omega
    · have := bp_min (f := f) (c := c) h3 (show j ≤ m by omega)
      split
      · rename_i h; simp; omega
      · exact this
theorem bp_val {f : Nat → Int} {c : Int} : ∀ m, ((bp f c m).2 = 0 ∧ (bp f c m).1 = c) ∨ (3 ≤ (bp f c m).2 ∧ (bp f c m).1 = f (bp f c m).2)
  | 0 => .inl ⟨rfl, rfl⟩
  | m + 1 => by
    rw [bp]
    split
    · rename_i h; exact .inr ⟨h.1, rfl⟩
    · exact bp_val m
theorem bp_congr {f g : Nat → Int} {c : Int} : ∀ {m : Nat}, (∀ j, j ≤ m → f j = g j) → bp f c m = bp g c m
  | 0, _ => rfl
  | m + 1, h => by rw [bp, bp, bp_congr (fun j hj => h j (by omega)), h (m + 1) (Nat.le_refl _)]

/-- How long a copy may be at a place. -/
def roomN (l : List Int) (a : Nat) : Nat := (lgT l a (min a 1024)).1
theorem roomN_le (l : List Int) (a : Nat) : roomN l a ≤ 64 := (lgT_le l a _).1
theorem runF_room (l : List Int) (a d : Nat) : ∀ f n, a + n ≤ l.length → a + runF l a d f n ≤ l.length
  | 0, n, h => h
  | f + 1, n, h => by
    rw [runF]
    split
    · rename_i hh; exact runF_room l a d f (n + 1) (by omega)
    · exact h
theorem lgT_room {l : List Int} {a : Nat} (ha : a ≤ l.length) : ∀ i, a + (lgT l a i).1 ≤ l.length
  | 0 => by simpa [lgT] using ha
  | i + 1 => by
    rw [lgT]
    split
    · exact runF_room l a (i + 1) 64 0 ha
    · exact lgT_room ha i
theorem roomN_room {l : List Int} {a : Nat} (ha : a ≤ l.length) : a + roomN l a ≤ l.length := lgT_room ha _

/-- Costs and lengths of the last k places. -/
def cT (l : List Int) (lit cp : Int) : Nat → Nat → Int
  | 0, _ => 0
  | k + 1, j => if j = l.length - (k + 1) then (bp (fun n => cT l lit cp k (l.length - (k + 1) + n) + cp) (cT l lit cp k (l.length - (k + 1) + 1) + lit) (roomN l (l.length - (k + 1)))).1 else cT l lit cp k j
def sT (l : List Int) (lit cp : Int) : Nat → Nat → Nat
  | 0, _ => 0
  | k + 1, j => if j = l.length - (k + 1) then (bp (fun n => cT l lit cp k (l.length - (k + 1) + n) + cp) (cT l lit cp k (l.length - (k + 1) + 1) + lit) (roomN l (l.length - (k + 1)))).2 else sT l lit cp k j
theorem cT_bd {l : List Int} {lit cp : Int} (h0 : 1 ≤ lit) (h1 : lit ≤ 1048576) (h2 : 1 ≤ cp) (h3 : cp ≤ 1048576) : ∀ k j, 0 ≤ cT l lit cp k j ∧ cT l lit cp k j ≤ 1048576 * k
  | 0, j => by simp [cT]
  | k + 1, j => by
    have ih := cT_bd (l := l) h0 h1 h2 h3 k
    rw [cT]
    split
    · have i1 := ih (l.length - (k + 1) + 1)
      have hb := (bp_le (fun n => cT l lit cp k (l.length - (k + 1) + n) + cp) (cT l lit cp k (l.length - (k + 1) + 1) + lit) (roomN l (l.length - (k + 1)))).1
      have hn := bp_nonneg (f := fun n => cT l lit cp k (l.length - (k + 1) + n) + cp) (c := cT l lit cp k (l.length - (k + 1) + 1) + lit) (by omega) (fun n => by have := ih (l.length - (k + 1) + n); omega) (roomN l (l.length - (k + 1)))
      omega
    · have := ih j
      omega
/-- What stands below is not told yet. -/
theorem cT_low {l : List Int} {lit cp : Int} : ∀ k j, j < l.length - k → cT l lit cp k j = 0
  | 0, j, _ => rfl
  | k + 1, j, h => by rw [cT, if_neg (by omega)]; exact cT_low k j (by omega)
theorem sT_low {l : List Int} {lit cp : Int} : ∀ k j, j < l.length - k → sT l lit cp k j = 0
  | 0, j, _ => rfl
  | k + 1, j, h => by rw [sT, if_neg (by omega)]; exact sT_low k j (by omega)
def tokOf (l : List Int) (a s : Nat) : Int × Int × Int := if s = 0 then (0, 0, gi l a) else ((s : Int), (fdT l a (min a 1024) s : Int), 0)
/-- The tokens of the last k places, none ahead of them. -/
def fT (l : List Int) (lit cp : Int) (k : Nat) : List (Int × Int × Int) := (List.range l.length).map fun j => if l.length - k ≤ j then tokOf l j (sT l lit cp k j) else (0, 0, 0)
theorem fT_len (l : List Int) (lit cp : Int) (k : Nat) : (fT l lit cp k).length = l.length := by simp [fT]
theorem fT_get (l : List Int) (lit cp : Int) (k j : Nat) (hj : j < l.length) (hk : l.length - k ≤ j) : (fT l lit cp k)[j]? = some (tokOf l j (sT l lit cp k j)) := by
  rw [fT, List.getElem?_map, List.getElem?_range hj, Option.map_some, if_pos hk]

def lT (l : List Int) (s : Nat → Nat) : Nat → Nat → List (Int × Int × Int)
  | 0, _ => []
  | f + 1, a => if a < l.length then tokOf l a (s a) :: lT l s f (a + max (s a) 1) else []
theorem lT_fuel (l : List Int) (s : Nat → Nat) : ∀ f f' a, l.length - a ≤ f → l.length - a ≤ f' → lT l s f a = lT l s f' a
  | 0, f', a, h, _ => by
    cases f' with
    | zero => rfl
    | succ f' => rw [lT, lT, if_neg (by omega)]
  | f + 1, 0, a, _, h => by rw [lT, lT, if_neg (by omega)]
  | f + 1, f' + 1, a, h, h' => by
    rw [lT, lT]
    by_cases ha : a < l.length
    · rw [if_pos ha, if_pos ha, lT_fuel l s f f' (a + max (s a) 1) (by omega) (by omega)]
    · rw [if_neg ha, if_neg ha]
theorem lT_len (l : List Int) (s : Nat → Nat) : ∀ f a, (lT l s f a).length ≤ f
  | 0, a => by simp [lT]
  | f + 1, a => by
    rw [lT]
    split
    · have := lT_len l s f (a + max (s a) 1); simp; omega
    · simp
def leastL (l : List Int) (lit cp : Int) : List (Int × Int × Int) := lT l (sT l lit cp l.length) l.length 0
def leastBad (lit cp : Int) : Bool := decide (lit < 1) || decide (1048576 < lit) || decide (cp < 1) || decide (1048576 < cp)
def leastI (l : List Int) (lit cp : Int) : List (Int × Int × Int) := if leastBad lit cp = true then [] else leastL l lit cp
theorem sT_le {l : List Int} {lit cp : Int} : ∀ k j, sT l lit cp k j ≤ 64
  | 0, j => by simp [sT]
  | k + 1, j => by
    rw [sT]
    split
    · have := (bp_le (fun n => cT l lit cp k (l.length - (k + 1) + n) + cp) (cT l lit cp k (l.length - (k + 1) + 1) + lit) (roomN l (l.length - (k + 1)))).2.1
      have := roomN_le l (l.length - (k + 1))
      omega
    · exact sT_le k j

end Go.Proofs.YtfanamibkgkaiaaDoor.VG
