/-
  Wide numbers, rows compared: what the layers share.
-/
import Derived.Test.YtgjnfajdejkkjaaHq
import Derived.Test.YtgjnfajdejkkjaaIr
namespace Go.Proofs.Ytgjnfajdejkkjaa.VG
open Go
set_option linter.unusedSimpArgs false
set_option linter.unusedVariables false
set_option maxRecDepth 20000

def wideB (x : Int) : Bool := decide (-1073741824 ≤ x) && decide (x < 1073741824)
theorem wideB_iff {x : Int} : wideB x = true ↔ -1073741824 ≤ x ∧ x < 1073741824 := by simp [wideB]
def allW (l : List Int) : Bool := l.all wideB
theorem allW_gi {l : List Int} (h : allW l = true) (i : Nat) (hi : i < l.length) : -1073741824 ≤ gi l i ∧ gi l i < 1073741824 :=
  wideB_iff.1 (List.all_eq_true.1 h _ (gi_mem l i hi))
theorem allW_take {l : List Int} {i : Nat} (h : allW (l.take i) = true) (hi : i < l.length) : allW (l.take (i + 1)) = wideB (gi l i) := by
  rw [gi_take_snoc l i hi, allW, List.all_append]
  simp only [allW] at h
  simp [h]
theorem allW_not {l : List Int} {i : Nat} (hi : i < l.length) (h : wideB (gi l i) = false) : allW l = false := by
  rw [← Bool.not_eq_true]
  intro h'
  have := List.all_eq_true.1 h' _ (gi_mem l i hi)
  rw [h] at this; cases this

theorem mul_bd {a b A B : Int} (h0 : -A ≤ a) (h1 : a ≤ A) (h2 : -B ≤ b) (h3 : b ≤ B) : -(A * B) ≤ a * b ∧ a * b ≤ A * B := by
  have h6 : (a * b).natAbs ≤ (A * B).natAbs := by
    rw [Int.natAbs_mul, Int.natAbs_mul]
    exact Nat.mul_le_mul (by omega) (by omega)
  have h7 : 0 ≤ A * B := Int.mul_nonneg (by omega) (by omega)
  omega

theorem mul_bd0 {a b A B : Int} (h0 : 0 ≤ a) (h1 : a ≤ A) (h2 : 0 ≤ b) (h3 : b ≤ B) : 0 ≤ a * b ∧ a * b ≤ A * B :=
  ⟨Int.mul_nonneg h0 h2, Int.mul_le_mul h1 h3 h2 (by omega)⟩

theorem sameInts_c {F G : Nat → Prop} {w : World} {u v : Value} {l m : List Int} (h : Rd F w u l.length (intsV l)) (k : Rd G w v m.length (intsV m)) (hl : l.length ≤ maxLen) :
    Calls Try.prog 14 [u, v].toArray w (Ret fun r w' => r = .bool (l == m) ∧ Mod none' w w') := by
  refine F_sound c14 (by simp [fc14]) ?_
  obtain ⟨hS, hL⟩ := h.sl
  obtain ⟨kS, kL⟩ := k.sl
  unfold maxLen at hl
  simp [fc14, s14, hS, hL, kS, kL]
  by_cases hlm : l.length = m.length
  · refine ite_r (t := false) (by simp [hlm]) (fun h => by cases h) (fun _ => ?_)
    simp
    refine for_r l.length (fun i env' w' => env' 0 = u ∧ env' 1 = v ∧ env' 5 = .int .i64 i ∧ Mod none' w w' ∧ l.take i = m.take i) ?_ ?_ ?_
    · simp [Mod.refl]
    · rintro i env w' hi ⟨e0, e1, e5, hm, ha⟩
      have hc := (h.at hm).gi i hi
      have hp := h.some (by omega)
      have kc := (k.at hm).gi i (by omega)
      have kp := k.some (by omega)
      have hi' : i < m.length := by omega
      simp [e0, e5, hS, hL]
      refine ite_r (t := true) (by simp [hi]) (fun _ => ?_) (fun h => by cases h)
      simp [wp_blk, e0, e1, e5, hS, hL, hp, hc, hi, kS, kL, kp, kc, hi']
      by_cases he : gi l i = gi m i
      · refine ite_r (t := false) (by simp [he]) (fun h => by cases h) (fun _ => ?_)
        simp (disch := omega) [wI, wU, tmod_nn, tdiv_nn, env0_0, env0_1, env0_2, env0_3, env0_4, env0_5, -env0_apply, e0, e1, e5]
        exact ⟨hm.drew, by rw [gi_take_snoc l i hi, gi_take_snoc m i hi', ha, he]⟩
      · refine ite_r (t := true) (by simp [he]) (fun _ => ?_) (fun h => by cases h)
        simp
        refine ⟨?_, hm.drew⟩
        rintro rfl
        exact he rfl
    · rintro env w' ⟨e0, e1, e5, hm, ha⟩
      simp [e0, e5, hS, hL]
      refine ite_r (t := false) (by simp) (fun h => by cases h) (fun _ => ?_)
      rw [List.take_length, hlm, List.take_length] at ha
      simp [ha, hm]
  · refine ite_r (t := true) (by simp; omega) (fun _ => ?_) (fun h => by cases h)
    simp [Mod.refl]
    rintro rfl
    exact hlm rfl

set_option maxRecDepth 20000 in
theorem slTI : SlT Try.prog 22 3 1 8 := ⟨by kernel_rfl, ⟨_, _, rfl, rfl, rfl, rfl, rfl⟩, by omega⟩
/-- A row of one's own, and an error. -/
def RowErr (w w' : World) (r : Value) (s : List Int × Int) : Prop := ∃ u, r = .tuple #[u, .int .i64 s.2] ∧ Hp w w' [.own 3 1 u s.1.length (intsV s.1)]
theorem RowErr.bad {w w' : World} {e : Int} (m : Mod none' w w') : RowErr w w' (.tuple #[.slice none 0 0, .int .i64 e]) ([], e) :=
  ⟨_, rfl, by simpa using (Hp.ofMod m).nilS (e := 3) (size := 1)⟩

end Go.Proofs.Ytgjnfajdejkkjaa.VG
