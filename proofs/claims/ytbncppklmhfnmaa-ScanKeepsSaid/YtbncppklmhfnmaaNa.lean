/-
  Scan: rows and columns.
-/
import Derived.Test.YtbncppklmhfnmaaKt
namespace Go.Proofs.Ytbncppklmhfnmaa.VG
open Go
set_option linter.unusedSimpArgs false
set_option linter.unusedVariables false
set_option maxRecDepth 20000

def mapTo (f : Nat → Int) (n : Nat) : List Int := (List.range n).map f
theorem mapTo_len (f : Nat → Int) (n : Nat) : (mapTo f n).length = n := by simp [mapTo]
theorem mapTo_succ (f : Nat → Int) (n : Nat) : mapTo f (n + 1) = mapTo f n ++ [f n] := by simp [mapTo, List.range_succ]
def mayB (w h : Int) : Bool := decide (1 ≤ w) && decide (w ≤ 64) && decide (1 ≤ h) && decide (h ≤ 64)
theorem mayB_iff {w h : Int} : mayB w h = true ↔ (1 ≤ w ∧ w ≤ 64) ∧ 1 ≤ h ∧ h ≤ 64 := by simp [mayB, and_assoc]
theorem may_c {w : World} (wd h : Int) : Calls Try.prog 24 [.int .i64 wd, .int .i64 h].toArray w (Ret fun r w' => r = .bool (mayB wd h) ∧ w' = w) := by
  refine F_sound c24 (by simp [fc24]) ?_
  simp [fc24, s24, mayB]
/-- What the place at of an order by rows is. -/
def rowAt (W : Nat) (T : Bool) (at' : Nat) : Int := ((at' / W * W + (if T = true ∧ at' / W % 2 = 1 then W - 1 - at' % W else at' % W) : Nat) : Int)
def colAt (W H : Nat) (at' : Nat) : Int := ((at' % H * W + at' / H : Nat) : Int)
theorem place {W y i : Nat} (h : i < W) : (y * W + i) / W = y ∧ (y * W + i) % W = i := by
  constructor
  · rw [Nat.mul_comm, Nat.mul_add_div (by omega), Nat.div_eq_of_lt h, Nat.add_zero]
  · rw [Nat.mul_comm, Nat.mul_add_mod, Nat.mod_eq_of_lt h]
def OwnRow (w w' : World) (r : Value) (l : List Int) : Prop := Hp w w' [.own 3 1 r l.length (intsV l)]

set_option maxHeartbeats 2000000 in
theorem rows_c {w : World} {W H' : Nat} (hW : 1 ≤ W ∧ W ≤ 64) (hH : 1 ≤ H' ∧ H' ≤ 64) (T : Bool) : Calls Try.prog 25 [.int .i64 W, .int .i64 H', .bool T].toArray w (Ret fun r w' => OwnRow w w' r (mapTo (rowAt W T) (W * H'))) := by
  refine F_sound c25 (by simp [fc25]) ?_
  simp [fc25, s25]
  have H := (Hp.nil w).nilS (e := 3) (size := 1)
  refine for_r H' (fun y env' w' => env' 0 = .int .i64 W ∧ env' 2 = .bool T ∧ env' 11 = .int .i64 H' ∧ env' 12 = .int .i64 y ∧ OwnRow w w' (env' 7) (mapTo (rowAt W T) (y * W))) ?_ ?_ ?_
  · simp [mapTo, OwnRow]
    simpa using H
  · rintro y env w1 hy ⟨e0, e2, e11, e12, H⟩
    have wy : IntKind.i64.wrap ((y : Int) + 1) = ((y + 1 : Nat) : Int) := by rw [wI (by omega) (by omega)]; omega
    simp [e11, e12]
    refine ite_r (t := true) (by simp; omega) (fun _ => ?_) (fun h => by cases h)
    simp [wp_blk, e0]
    refine for_r W (fun i env' w' => env' 0 = .int .i64 W ∧ env' 2 = .bool T ∧ env' 11 = .int .i64 H' ∧ env' 12 = .int .i64 y ∧ env' 8 = .int .i64 y ∧ env' 15 = .int .i64 W ∧ env' 16 = .int .i64 i ∧ OwnRow w w' (env' 7) (mapTo (rowAt W T) (y * W + i))) ?_ ?_ ?_
    · simp [e0, e2, e11, e12]
      exact H
    · rintro i env w2 hi ⟨e0, e2, e11, e12, e8, e15, e16, H⟩
      have wi : IntKind.i64.wrap ((i : Int) + 1) = ((i + 1 : Nat) : Int) := by rw [wI (by omega) (by omega)]; omega
      have hyW : y * W ≤ 63 * 64 := Nat.mul_le_mul (by omega) (by omega)
      obtain ⟨p1, p2⟩ := place (y := y) hi
      have ey : (y : Int) * (W : Int) = ((y * W : Nat) : Int) := by rw [Int.natCast_mul]
      have wyW : IntKind.i64.wrap ((y * W : Nat) : Int) = ((y * W : Nat) : Int) := wI (by omega) (by omega)
      have ht : (y : Int).tmod 2 = ((y % 2 : Nat) : Int) := rfl
      have w1' : IntKind.i64.wrap ((W : Int) - 1) = (W : Int) - 1 := wI (by omega) (by omega)
      have w2' : IntKind.i64.wrap ((W : Int) - 1 - i) = (W : Int) - 1 - i := wI (by omega) (by omega)
      have hat : rowAt W T (y * W + i) = ((y * W + (if T = true ∧ y % 2 = 1 then W - 1 - i else i) : Nat) : Int) := by unfold rowAt; rw [p1, p2]
      generalize hrv : env 7 = rv at *
      simp [e15, e16]
      refine ite_r (t := true) (by simp; omega) (fun _ => ?_) (fun h => by cases h)
      simp [wp_blk, e2, e8]
      refine ite_cut (fun env' w' => env' 0 = .int .i64 W ∧ env' 2 = .bool T ∧ env' 11 = .int .i64 H' ∧ env' 12 = .int .i64 y ∧ env' 8 = .int .i64 y ∧ env' 15 = .int .i64 W ∧ env' 16 = .int .i64 i ∧ env' 7 = rv ∧ env' 10 = .int .i64 ((if T = true ∧ y % 2 = 1 then W - 1 - i else i : Nat) : Int) ∧ w' = w2) (t := T && decide (y % 2 = 1)) ?_ ?_ ?_ ?_
      · simp [ht]
        cases T
        · simp
        · simp only [Bool.true_and]
          rw [Bool.eq_iff_iff]
          simp
          omega
      · intro ht'
        simp at ht'
        obtain ⟨hT, hy1⟩ := ht'
        have cst : ((W - 1 - i : Nat) : Int) = (W : Int) - 1 - i := by omega
        simp [e0, e2, e11, e12, e8, e15, e16, hrv, w1', w2', hT, hy1, cst]
      · intro ht'
        have hno : ¬ (T = true ∧ y % 2 = 1) := fun h => by rw [h.1] at ht'; simp [h.2] at ht'
        rw [if_neg hno]
        simp [e0, e2, e11, e12, e8, e15, e16, hrv]
      rintro env _ ⟨e0, e2, e11, e12, e8, e15, e16, e7, e10, rfl⟩
      rw [← Nat.add_assoc, mapTo_succ, hat]
      have hxb : (if T = true ∧ y % 2 = 1 then W - 1 - i else i) ≤ 63 := by split <;> omega
      generalize (if T = true ∧ y % 2 = 1 then W - 1 - i else i) = x at *
      have wx : IntKind.i64.wrap (((y * W : Nat) : Int) + x) = ((y * W + x : Nat) : Int) := by rw [wI (by omega) (by omega)]; omega
      unfold OwnRow at H
      simp only [mapTo_len] at H
      simp [-Int.natCast_add, -Int.natCast_mul, e0, e8, e10, ey, wyW, wx]
      refine app1_h slTI 0 H rfl (u := .int .i64 ((y * W + x : Nat) : Int)) (by simp) (by omega) (by unfold maxLen; omega) (by simp [-Int.natCast_add, -Int.natCast_mul, e0, e8, e10, ey, wyW, wx]) (by simp [e7]) (by simp) (by simp) ?_
      intro vb v' w3 w4 H
      refine ⟨.inl rfl, ?_⟩
      simp [-Int.natCast_add, -Int.natCast_mul, wi, e0, e2, e11, e12, e8, e15, e16]
      simp only [List.set_cons_zero] at H
      rw [intsV_snoc] at H
      refine ⟨by omega, ?_⟩
      unfold OwnRow
      simpa [mapTo_len] using H
    · rintro env w2 ⟨e0, e2, e11, e12, e8, e15, e16, H⟩
      simp [e15, e16]
      refine ite_r (t := false) (by simp) (fun h => by cases h) (fun _ => ?_)
      simp [e0, e2, e11, e12, wy, -Int.natCast_add]
      rw [Nat.succ_mul]
      exact ⟨by omega, H⟩
  · rintro env w1 ⟨e0, e2, e11, e12, H⟩
    simp [e11, e12]
    refine ite_r (t := false) (by simp) (fun h => by cases h) (fun _ => ?_)
    simp
    rw [Nat.mul_comm W]
    exact H

set_option maxHeartbeats 2000000 in
theorem cols_c {w : World} {W H' : Nat} (hW : 1 ≤ W ∧ W ≤ 64) (hH : 1 ≤ H' ∧ H' ≤ 64) : Calls Try.prog 26 [.int .i64 W, .int .i64 H'].toArray w (Ret fun r w' => OwnRow w w' r (mapTo (colAt W H') (W * H'))) := by
  refine F_sound c26 (by simp [fc26]) ?_
  simp [fc26, s26]
  have H := (Hp.nil w).nilS (e := 3) (size := 1)
  refine for_r W (fun x env' w' => env' 0 = .int .i64 W ∧ env' 1 = .int .i64 H' ∧ env' 8 = .int .i64 W ∧ env' 9 = .int .i64 x ∧ OwnRow w w' (env' 5) (mapTo (colAt W H') (x * H'))) ?_ ?_ ?_
  · simp [mapTo, OwnRow]
    simpa using H
  · rintro x env w1 hx ⟨e0, e1, e8, e9, H⟩
    have wx : IntKind.i64.wrap ((x : Int) + 1) = ((x + 1 : Nat) : Int) := by rw [wI (by omega) (by omega)]; omega
    simp [e8, e9]
    refine ite_r (t := true) (by simp; omega) (fun _ => ?_) (fun h => by cases h)
    simp [wp_blk, e1]
    refine for_r H' (fun y env' w' => env' 0 = .int .i64 W ∧ env' 1 = .int .i64 H' ∧ env' 8 = .int .i64 W ∧ env' 9 = .int .i64 x ∧ env' 6 = .int .i64 x ∧ env' 12 = .int .i64 H' ∧ env' 13 = .int .i64 y ∧ OwnRow w w' (env' 5) (mapTo (colAt W H') (x * H' + y))) ?_ ?_ ?_
    · simp [e0, e1, e8, e9]
      exact H
    · rintro y env w2 hy ⟨e0, e1, e8, e9, e6, e12, e13, H⟩
      have wi : IntKind.i64.wrap ((y : Int) + 1) = ((y + 1 : Nat) : Int) := by rw [wI (by omega) (by omega)]; omega
      have hyW : y * W ≤ 63 * 64 := Nat.mul_le_mul (by omega) (by omega)
      have hxH : x * H' ≤ 63 * 64 := Nat.mul_le_mul (by omega) (by omega)
      obtain ⟨p1, p2⟩ := place (y := x) hy
      have ey : (y : Int) * (W : Int) = ((y * W : Nat) : Int) := by rw [Int.natCast_mul]
      have wyW : IntKind.i64.wrap ((y * W : Nat) : Int) = ((y * W : Nat) : Int) := wI (by omega) (by omega)
      have wv : IntKind.i64.wrap (((y * W : Nat) : Int) + x) = ((y * W + x : Nat) : Int) := by rw [wI (by omega) (by omega)]; omega
      have hat : colAt W H' (x * H' + y) = ((y * W + x : Nat) : Int) := by unfold colAt; rw [p1, p2]
      generalize hrv : env 5 = rv at *
      simp [e12, e13]
      refine ite_r (t := true) (by simp; omega) (fun _ => ?_) (fun h => by cases h)
      unfold OwnRow at H
      simp only [mapTo_len] at H
      simp [wp_blk, -Int.natCast_add, -Int.natCast_mul, e0, e6, e13, ey, wyW, wv]
      refine app1_h slTI 0 H rfl (u := .int .i64 ((y * W + x : Nat) : Int)) (by simp) (by omega) (by unfold maxLen; omega) (by simp [-Int.natCast_add, -Int.natCast_mul, e0, e6, e13, ey, wyW, wv]) (by simp [hrv]) (by simp) (by simp) ?_
      intro vb v' w3 w4 H
      refine ⟨.inl rfl, ?_⟩
      simp [-Int.natCast_add, -Int.natCast_mul, wi, e0, e1, e8, e9, e6, e12, e13]
      simp only [List.set_cons_zero] at H
      rw [intsV_snoc, ← hat, ← mapTo_succ] at H
      refine ⟨by omega, ?_⟩
      unfold OwnRow
      rw [← Nat.add_assoc, mapTo_len]
      exact H
    · rintro env w2 ⟨e0, e1, e8, e9, e6, e12, e13, H⟩
      simp [e12, e13]
      refine ite_r (t := false) (by simp) (fun h => by cases h) (fun _ => ?_)
      simp [e0, e1, e8, e9, wx, -Int.natCast_add]
      rw [Nat.succ_mul]
      exact ⟨by omega, H⟩
  · rintro env w1 ⟨e0, e1, e8, e9, H⟩
    simp [e8, e9]
    refine ite_r (t := false) (by simp) (fun h => by cases h) (fun _ => ?_)
    simp
    exact H

end Go.Proofs.Ytbncppklmhfnmaa.VG
