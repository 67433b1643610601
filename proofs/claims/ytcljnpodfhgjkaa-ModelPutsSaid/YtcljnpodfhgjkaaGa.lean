/-
  Guesses: neighbours, one guess.
-/
import Derived.Test.YtcljnpodfhgjkaaKt
namespace Go.Proofs.Ytcljnpodfhgjkaa.VG
open Go
set_option linter.unusedSimpArgs false
set_option linter.unusedVariables false
set_option maxRecDepth 20000

def mnI (a b : Int) : Int := if b < a then b else a
def mxI (a b : Int) : Int := if a < b then b else a
def inD (d x : Int) : Bool := decide (0 ≤ x) && decide (x < p2 d)
theorem inD_iff {d x : Int} : inD d x = true ↔ 0 ≤ x ∧ x < p2 d := by simp [inD]
def nearI (l : List Int) (w x y : Int) : Int × Int × Int × Int :=
  if ((1 ≤ w ∧ w ≤ 64) ∧ (0 ≤ x ∧ x < w) ∧ 0 ≤ y ∧ y < 64) ∧ y * w + x ≤ l.length then
    (if y = 0 then (if x = 0 then (0, 0, 0, 0) else (gi l (y * w + x - 1).toNat, gi l (y * w + x - 1).toNat, gi l (y * w + x - 1).toNat, gi l (y * w + x - 1).toNat))
     else (if 0 < x then gi l (y * w + x - 1).toNat else gi l (y * w + x - w).toNat, gi l (y * w + x - w).toNat, if 0 < x then gi l (y * w + x - w - 1).toNat else gi l (y * w + x - w).toNat,
       if x < w - 1 then gi l (y * w + x - w + 1).toNat else gi l (y * w + x - w).toNat))
  else (0, 0, 0, 0)
def farI (x : Int) : Int := if x < 0 then -x else x
def near3 (g w n a : Int) : Int := if farI (w - g) ≤ farI (n - g) ∧ farI (w - g) ≤ farI (a - g) then w else if farI (n - g) ≤ farI (a - g) then n else a
def oneI (k w n a b d : Int) : Int :=
  if (0 ≤ k ∧ k ≤ 9) ∧ dep d = true ∧ ([w, n, a, b] : List Int).all (inD d) = true then
    (if k = 1 then w else if k = 2 then n else if k = 3 then a else if k = 4 then b else if k = 5 then (w + n) / 2 else if k = 6 then near3 (w + n - a) w n a
     else if k = 7 then mxI (mnI w n) (mnI (mxI w n) (w + n - a)) else if k = 8 then mnI (mxI (w + n - a) 0) (p2 d - 1) else if k = 9 then (w + n + a + b + 2) / 4 else 0)
  else 0
def tup4 (p : Int × Int × Int × Int) : Value := .tuple #[.int .i64 p.1, .int .i64 p.2.1, .int .i64 p.2.2.1, .int .i64 p.2.2.2]

set_option maxHeartbeats 2000000 in
theorem near_c {G : Nat → Prop} {w : World} {v : Value} {l : List Int} (wd x y : Int) (h : Rd G w v l.length (intsV l)) : Calls Try.prog 66 [v, .int .i64 wd, .int .i64 x, .int .i64 y].toArray w (Ret fun r w' => r = tup4 (nearI l wd x y) ∧ Mod none' w w') := by
  refine F_sound c66 (by simp [fc66]) ?_
  obtain ⟨hS, hL⟩ := h.sl
  simp [fc66, s66]
  by_cases hr : (1 ≤ wd ∧ wd ≤ 64) ∧ (0 ≤ x ∧ x < wd) ∧ 0 ≤ y ∧ y < 64
  rotate_left
  · have e : nearI l wd x y = (0, 0, 0, 0) := by rw [nearI, if_neg (fun h => hr h.1)]
    refine ⟨fun _ _ _ _ _ _ => by omega, ?_⟩
    refine ite_r (t := true) (by simp; omega) (fun _ => ?_) (fun h => by cases h)
    simp [e, tup4]
    exact Mod.refl _ _
  have hm := mul_bd0 (a := y) (b := wd) (A := 63) (B := 64) (by omega) (by omega) (by omega) (by omega)
  have hy1 : y ≠ 0 → wd ≤ y * wd := fun hy => by have := Int.mul_le_mul_of_nonneg_right (show 1 ≤ y by omega) (show 0 ≤ wd by omega); omega
  have hy0 : y = 0 → y * wd = 0 := fun hy => by rw [hy, Int.zero_mul]
  have w1 : IntKind.i64.wrap (y * wd) = y * wd := wI (by omega) (by omega)
  have w2 : IntKind.i64.wrap (y * wd + x) = y * wd + x := wI (by omega) (by omega)
  have en : nearI l wd x y = if y * wd + x ≤ l.length then
    (if y = 0 then (if x = 0 then (0, 0, 0, 0) else (gi l (y * wd + x - 1).toNat, gi l (y * wd + x - 1).toNat, gi l (y * wd + x - 1).toNat, gi l (y * wd + x - 1).toNat))
     else (if 0 < x then gi l (y * wd + x - 1).toNat else gi l (y * wd + x - wd).toNat, gi l (y * wd + x - wd).toNat, if 0 < x then gi l (y * wd + x - wd - 1).toNat else gi l (y * wd + x - wd).toNat,
       if x < wd - 1 then gi l (y * wd + x - wd + 1).toNat else gi l (y * wd + x - wd).toNat)) else (0, 0, 0, 0) := by
    by_cases hl : y * wd + x ≤ l.length
    · rw [nearI, if_pos ⟨hr, hl⟩, if_pos hl]
    · rw [nearI, if_neg (fun h => hl h.2), if_neg hl]
  rw [en]
  simp [hS, hL, w1, w2]
  generalize hT : y * wd + x = T at *
  by_cases hl : T ≤ (l.length : Int)
  rotate_left
  · refine ite_r (t := true) (by simp; omega) (fun _ => ?_) (fun h => by cases h)
    simp [hl, tup4]
    exact Mod.refl _ _
  have w3 : IntKind.i64.wrap (T - 1) = T - 1 := wI (by omega) (by omega)
  have w4 : IntKind.i64.wrap (T - wd) = T - wd := wI (by omega) (by omega)
  have w5 : IntKind.i64.wrap (T - wd - 1) = T - wd - 1 := wI (by omega) (by omega)
  have w6 : IntKind.i64.wrap (T - wd + 1) = T - wd + 1 := wI (by omega) (by omega)
  have w7 : IntKind.i64.wrap (wd - 1) = wd - 1 := wI (by omega) (by omega)
  have hg : ∀ i : Int, 0 ≤ i → i < l.length → w.cell? ((slB v).add i.toNat) = some (.int .i64 (gi l i.toNat)) := fun i h0 h1 => h.gi i.toNat (by omega)
  have hsome : 0 < l.length → (slA v).isSome = true := h.some
  refine ite_r (t := false) (by simp; omega) (fun h => by cases h) (fun _ => ?_)
  simp [hl, w1, w2, hT]
  by_cases hy : y = 0
  · have := hy0 hy
    refine ite_r (t := true) (by simp [hy]) (fun _ => ?_) (fun h => by cases h)
    by_cases hx : x = 0
    · simp [hx]
      refine ite_r (t := true) (by simp) (fun _ => ?_) (fun h => by cases h)
      simp [hx, hy, tup4]
      exact Mod.refl _ _
    · have g1 := hg (T - 1) (by omega) (by omega)
      have p1 := hsome (by omega)
      simp at g1
      simp [hx, hy]
      refine ite_r (t := false) (by simp [hx]) (fun h => by cases h) (fun _ => ?_)
      simp [hS, hL, w3, g1, p1, tup4]
      exact ⟨by omega, Mod.refl _ _⟩
  · have hy1' := hy1 hy
    have g2 := hg (T - wd) (by omega) (by omega)
    have p1 := hsome (by omega)
    refine ite_r (t := false) (by simp [hy]) (fun h => by cases h) (fun _ => ?_)
    simp [hS, hL, w4, g2, p1, hy]
    refine ⟨by omega, ?_⟩
    by_cases hx : 0 < x
    · have g3 := hg (T - 1) (by omega) (by omega)
      have g4 := hg (T - wd - 1) (by omega) (by omega)
      simp at g3 g4
      refine ite_r (t := true) (by simp [hx]) (fun _ => ?_) (fun h => by cases h)
      simp [hS, hL, w3, w4, w5, w7, g3, g4, p1]
      refine ⟨by omega, by omega, ?_⟩
      by_cases hx2 : x < wd - 1
      · have g5 := hg (T - wd + 1) (by omega) (by omega)
        refine ite_r (t := true) (by simp [hx2]) (fun _ => ?_) (fun h => by cases h)
        simp [hS, hL, w4, w6, g5, p1, hx, hx2, tup4]
        exact ⟨by omega, (Mod.refl _ _).drew⟩
      · refine ite_r (t := false) (by simp [hx2]) (fun h => by cases h) (fun _ => ?_)
        simp [hx, hx2, tup4]
        exact (Mod.refl _ _).drew
    · refine ite_r (t := false) (by simp [hx]) (fun h => by cases h) (fun _ => ?_)
      simp [w7]
      by_cases hx2 : x < wd - 1
      · have g5 := hg (T - wd + 1) (by omega) (by omega)
        refine ite_r (t := true) (by simp [hx2]) (fun _ => ?_) (fun h => by cases h)
        simp [hS, hL, w4, w6, g5, p1, hx, hx2, tup4]
        exact ⟨by omega, Mod.refl _ _⟩
      · refine ite_r (t := false) (by simp [hx2]) (fun h => by cases h) (fun _ => ?_)
        simp [hx, hx2, tup4]
        exact Mod.refl _ _

set_option maxHeartbeats 2000000 in
theorem near2_c {G : Nat → Prop} {w : World} {v : Value} {l : List Int} (wd x y : Int) (h : Rd G w v l.length (intsV l)) : Calls Try.prog 85 [v, .int .i64 wd, .int .i64 x, .int .i64 y].toArray w (Ret fun r w' => r = tup4 (nearI l wd x y) ∧ Mod none' w w') := by
  refine F_sound c85 (by simp [fc85]) ?_
  obtain ⟨hS, hL⟩ := h.sl
  simp [fc85, s85]
  refine callp (side2_c wd) (by simp) ?_
  simp [hS, hL]
  by_cases hr : (1 ≤ wd ∧ wd ≤ 64) ∧ (0 ≤ x ∧ x < wd) ∧ 0 ≤ y ∧ y < 64
  rotate_left
  · have e : nearI l wd x y = (0, 0, 0, 0) := by rw [nearI, if_neg (fun h => hr h.1)]
    refine ite_r (t := true) (by simp; omega) (fun _ => ?_) (fun h => by cases h)
    simp [e, tup4]
    exact Mod.refl _ _
  have hm := mul_bd0 (a := y) (b := wd) (A := 63) (B := 64) (by omega) (by omega) (by omega) (by omega)
  have hy1 : y ≠ 0 → wd ≤ y * wd := fun hy => by have := Int.mul_le_mul_of_nonneg_right (show 1 ≤ y by omega) (show 0 ≤ wd by omega); omega
  have hy0 : y = 0 → y * wd = 0 := fun hy => by rw [hy, Int.zero_mul]
  have w1 : IntKind.i64.wrap (y * wd) = y * wd := wI (by omega) (by omega)
  have w2 : IntKind.i64.wrap (y * wd + x) = y * wd + x := wI (by omega) (by omega)
  have en : nearI l wd x y = if y * wd + x ≤ l.length then
    (if y = 0 then (if x = 0 then (0, 0, 0, 0) else (gi l (y * wd + x - 1).toNat, gi l (y * wd + x - 1).toNat, gi l (y * wd + x - 1).toNat, gi l (y * wd + x - 1).toNat))
     else (if 0 < x then gi l (y * wd + x - 1).toNat else gi l (y * wd + x - wd).toNat, gi l (y * wd + x - wd).toNat, if 0 < x then gi l (y * wd + x - wd - 1).toNat else gi l (y * wd + x - wd).toNat,
       if x < wd - 1 then gi l (y * wd + x - wd + 1).toNat else gi l (y * wd + x - wd).toNat)) else (0, 0, 0, 0) := by
    by_cases hl : y * wd + x ≤ l.length
    · rw [nearI, if_pos ⟨hr, hl⟩, if_pos hl]
    · rw [nearI, if_neg (fun h => hl h.2), if_neg hl]
  rw [en]
  simp [hS, hL, w1, w2]
  generalize hT : y * wd + x = T at *
  by_cases hl : T ≤ (l.length : Int)
  rotate_left
  · refine ite_r (t := true) (by simp; omega) (fun _ => ?_) (fun h => by cases h)
    simp [hl, tup4]
    exact Mod.refl _ _
  have w3 : IntKind.i64.wrap (T - 1) = T - 1 := wI (by omega) (by omega)
  have w4 : IntKind.i64.wrap (T - wd) = T - wd := wI (by omega) (by omega)
  have w5 : IntKind.i64.wrap (T - wd - 1) = T - wd - 1 := wI (by omega) (by omega)
  have w6 : IntKind.i64.wrap (T - wd + 1) = T - wd + 1 := wI (by omega) (by omega)
  have w7 : IntKind.i64.wrap (wd - 1) = wd - 1 := wI (by omega) (by omega)
  have hg : ∀ i : Int, 0 ≤ i → i < l.length → w.cell? ((slB v).add i.toNat) = some (.int .i64 (gi l i.toNat)) := fun i h0 h1 => h.gi i.toNat (by omega)
  have hsome : 0 < l.length → (slA v).isSome = true := h.some
  refine ite_r (t := false) (by simp; omega) (fun h => by cases h) (fun _ => ?_)
  simp [hl, w1, w2, hT]
  by_cases hy : y = 0
  · have := hy0 hy
    refine ite_r (t := true) (by simp [hy]) (fun _ => ?_) (fun h => by cases h)
    by_cases hx : x = 0
    · simp [hx]
      refine ite_r (t := true) (by simp) (fun _ => ?_) (fun h => by cases h)
      simp [hx, hy, tup4]
      exact Mod.refl _ _
    · have g1 := hg (T - 1) (by omega) (by omega)
      have p1 := hsome (by omega)
      simp at g1
      simp [hx, hy]
      refine ite_r (t := false) (by simp [hx]) (fun h => by cases h) (fun _ => ?_)
      simp [hS, hL, w3, g1, p1, tup4]
      exact ⟨by omega, (Mod.refl _ _).drew⟩
  · have hy1' := hy1 hy
    have g2 := hg (T - wd) (by omega) (by omega)
    have p1 := hsome (by omega)
    refine ite_r (t := false) (by simp [hy]) (fun h => by cases h) (fun _ => ?_)
    simp [hS, hL, w4, g2, p1, hy]
    refine ⟨by omega, ?_⟩
    by_cases hx : 0 < x
    · have g3 := hg (T - 1) (by omega) (by omega)
      have g4 := hg (T - wd - 1) (by omega) (by omega)
      simp at g3 g4
      refine ite_r (t := true) (by simp [hx]) (fun _ => ?_) (fun h => by cases h)
      simp [hS, hL, w3, w4, w5, w7, g3, g4, p1]
      refine ⟨by omega, by omega, ?_⟩
      by_cases hx2 : x < wd - 1
      · have g5 := hg (T - wd + 1) (by omega) (by omega)
        refine ite_r (t := true) (by simp [hx2]) (fun _ => ?_) (fun h => by cases h)
        simp [hS, hL, w4, w6, g5, p1, hx, hx2, tup4]
        exact ⟨by omega, (Mod.refl _ _).drew⟩
      · refine ite_r (t := false) (by simp [hx2]) (fun h => by cases h) (fun _ => ?_)
        simp [hx, hx2, tup4]
        exact (Mod.refl _ _).drew
    · refine ite_r (t := false) (by simp [hx]) (fun h => by cases h) (fun _ => ?_)
      simp [w7]
      by_cases hx2 : x < wd - 1
      · have g5 := hg (T - wd + 1) (by omega) (by omega)
        refine ite_r (t := true) (by simp [hx2]) (fun _ => ?_) (fun h => by cases h)
        simp [hS, hL, w4, w6, g5, p1, hx, hx2, tup4]
        exact ⟨by omega, Mod.refl _ _⟩
      · refine ite_r (t := false) (by simp [hx2]) (fun h => by cases h) (fun _ => ?_)
        simp [hx, hx2, tup4]
        exact Mod.refl _ _

end Go.Proofs.Ytcljnpodfhgjkaa.VG
