/-
  Scan: diagonals.
-/
import Derived.Test.YtbncppklmhfnmaaNa
namespace Go.Proofs.Ytbncppklmhfnmaa.VG
open Go
set_option linter.unusedSimpArgs false
set_option linter.unusedVariables false
set_option maxRecDepth 20000

def diagS (W H s : Nat) : Nat → List Int
  | 0 => []
  | x + 1 => diagS W H s x ++ (if x ≤ s ∧ s - x < H then [(((s - x) * W + x : Nat) : Int)] else [])
def diagL (W H : Nat) : Nat → List Int
  | 0 => []
  | s + 1 => diagL W H s ++ diagS W H s W
theorem diagS_len (W H s : Nat) : ∀ x, (diagS W H s x).length ≤ x
  | 0 => by simp [diagS]
  | x + 1 => by
    have := diagS_len W H s x
    simp only [diagS, List.length_append]
    split <;> simp <;> omega
theorem diagL_len (W H : Nat) : ∀ s, (diagL W H s).length ≤ s * W
  | 0 => by simp [diagL]
  | s + 1 => by
    have h1 := diagL_len W H s
    have h2 := diagS_len W H s W
    rw [Nat.succ_mul]
    simp only [diagL, List.length_append]
    omega

set_option maxHeartbeats 2000000 in
theorem diags_c {w : World} {W H' : Nat} (hW : 1 ≤ W ∧ W ≤ 64) (hH : 1 ≤ H' ∧ H' ≤ 64) : Calls Try.prog 27 [.int .i64 W, .int .i64 H'].toArray w (Ret fun r w' => OwnRow w w' r (diagL W H' (W + H' - 1))) := by
  refine F_sound c27 (by simp [fc27]) ?_
  have w1 : IntKind.i64.wrap ((W : Int) + H') = (W : Int) + H' := wI (by omega) (by omega)
  have w2 : IntKind.i64.wrap ((W : Int) + H' - 1) = ((W + H' - 1 : Nat) : Int) := by rw [wI (by omega) (by omega)]; omega
  simp [fc27, s27, w1, w2]
  have H := (Hp.nil w).nilS (e := 3) (size := 1)
  generalize hS : W + H' - 1 = S at *
  refine for_r S (fun s env' w' => env' 0 = .int .i64 W ∧ env' 1 = .int .i64 H' ∧ env' 12 = .int .i64 S ∧ env' 13 = .int .i64 s ∧ OwnRow w w' (env' 5) (diagL W H' s)) ?_ ?_ ?_
  · simp [diagL, OwnRow]
    simpa using H
  · rintro s env w3 hs ⟨e0, e1, e12, e13, H⟩
    have ws : IntKind.i64.wrap ((s : Int) + 1) = ((s + 1 : Nat) : Int) := by rw [wI (by omega) (by omega)]; omega
    have hlL := diagL_len W H' s
    have hsW : s * W ≤ 127 * 64 := Nat.mul_le_mul (by omega) (by omega)
    simp [e12, e13]
    refine ite_r (t := true) (by simp; omega) (fun _ => ?_) (fun h => by cases h)
    simp [wp_blk, e0]
    refine for_r W (fun x env' w' => env' 0 = .int .i64 W ∧ env' 1 = .int .i64 H' ∧ env' 12 = .int .i64 S ∧ env' 13 = .int .i64 s ∧ env' 6 = .int .i64 s ∧ env' 16 = .int .i64 W ∧ env' 17 = .int .i64 x ∧ OwnRow w w' (env' 5) (diagL W H' s ++ diagS W H' s x)) ?_ ?_ ?_
    · simp [e0, e1, e12, e13, diagS]
      exact H
    · rintro x env w4 hx ⟨e0, e1, e12, e13, e6, e16, e17, H⟩
      have wi : IntKind.i64.wrap ((x : Int) + 1) = ((x + 1 : Nat) : Int) := by rw [wI (by omega) (by omega)]; omega
      have wy : IntKind.i64.wrap ((s : Int) - x) = (s : Int) - x := wI (by omega) (by omega)
      have hlS := diagS_len W H' s x
      generalize hrv : env 5 = rv at *
      simp [e16, e17]
      refine ite_r (t := true) (by simp; omega) (fun _ => ?_) (fun h => by cases h)
      simp [wp_blk, e1, e6, e17, wy]
      by_cases hy : x ≤ s ∧ s - x < H'
      · have hd : diagS W H' s (x + 1) = diagS W H' s x ++ [(((s - x) * W + x : Nat) : Int)] := by rw [diagS, if_pos hy]
        have hyW : (s - x) * W ≤ 63 * 64 := Nat.mul_le_mul (by omega) (by omega)
        have ey : ((s : Int) - x) * (W : Int) = (((s - x) * W : Nat) : Int) := by rw [Int.natCast_mul]; congr 1; omega
        have wyW : IntKind.i64.wrap (((s - x) * W : Nat) : Int) = (((s - x) * W : Nat) : Int) := wI (by omega) (by omega)
        have wv : IntKind.i64.wrap ((((s - x) * W : Nat) : Int) + x) = (((s - x) * W + x : Nat) : Int) := by rw [wI (by omega) (by omega)]; omega
        refine ite_r (t := true) (by simp; omega) (fun _ => ?_) (fun h => by cases h)
        unfold OwnRow at H
        simp [-Int.natCast_add, -Int.natCast_mul, e0, ey, wyW, wv]
        refine app1_h slTI 0 H rfl (u := .int .i64 (((s - x) * W + x : Nat) : Int)) (by simp) (by simp; omega) (by unfold maxLen; simp; omega) (by simp [-Int.natCast_add, -Int.natCast_mul, e0, ey, wyW, wv]) (by simp [hrv]) (by simp) (by simp) ?_
        intro vb v' w5 w6 H
        refine ⟨.inl rfl, ?_⟩
        simp [-Int.natCast_add, -Int.natCast_mul, wi, e0, e1, e12, e13, e6, e16, e17]
        simp only [List.set_cons_zero] at H
        rw [intsV_snoc, List.append_assoc, ← hd] at H
        refine ⟨by omega, ?_⟩
        unfold OwnRow
        rw [hd]
        rw [hd] at H
        simpa [Nat.add_assoc] using H
      · have hd : diagS W H' s (x + 1) = diagS W H' s x := by rw [diagS, if_neg hy, List.append_nil]
        refine ite_r (t := false) (by simp; omega) (fun h => by cases h) (fun _ => ?_)
        simp [-Int.natCast_add, wi, e0, e1, e12, e13, e6, e16, e17, hrv, hd]
        exact ⟨by omega, H⟩
    · rintro env w4 ⟨e0, e1, e12, e13, e6, e16, e17, H⟩
      simp [e16, e17]
      refine ite_r (t := false) (by simp) (fun h => by cases h) (fun _ => ?_)
      simp [e0, e1, e12, e13, ws, -Int.natCast_add]
      exact ⟨by omega, H⟩
  · rintro env w3 ⟨e0, e1, e12, e13, H⟩
    simp [e12, e13]
    refine ite_r (t := false) (by simp) (fun h => by cases h) (fun _ => ?_)
    simp
    exact H

end Go.Proofs.Ytbncppklmhfnmaa.VG
