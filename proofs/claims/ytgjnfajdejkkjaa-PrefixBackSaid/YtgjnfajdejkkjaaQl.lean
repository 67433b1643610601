/-
  Words compared, totals; the law of what codes are.
-/
import Derived.Test.YtgjnfajdejkkjaaQk
namespace Go.Proofs.Ytgjnfajdejkkjaa.VG
open Go
set_option linter.unusedSimpArgs false
set_option linter.unusedVariables false
set_option maxRecDepth 20000

set_option maxHeartbeats 2000000 in
theorem sameWords_c {F G : Nat → Prop} {w : World} {u v : Value} {l m : List Int} (h : Rd F w u l.length (wdsV l)) (k : Rd G w v m.length (wdsV m)) (hl : l.length ≤ 1000000) :
    Calls Try.prog 19 [u, v].toArray w (Ret fun r w' => r = .bool (l == m) ∧ Mod none' w w') := by
  refine F_sound c19 (by simp [fc19]) ?_
  obtain ⟨hS, hL⟩ := h.sl
  obtain ⟨kS, kL⟩ := k.sl
  simp [fc19, s19, hS, hL, kS, kL]
  by_cases hlm : l.length = m.length
  · refine ite_r (t := false) (by simp [hlm]) (fun h => by cases h) (fun _ => ?_)
    simp
    refine for_r l.length (fun i env' w' => env' 0 = u ∧ env' 1 = v ∧ env' 5 = .int .i64 i ∧ Mod none' w w' ∧ l.take i = m.take i) ?_ ?_ ?_
    · simp [Mod.refl]
    · rintro i env w' hi ⟨e0, e1, e5, hm, ha⟩
      have wi : IntKind.i64.wrap ((i : Int) + 1) = ((i + 1 : Nat) : Int) := by rw [wI (by omega) (by omega)]; omega
      have hi' : i < m.length := by omega
      have ca := rdW (h.at hm.drew) i hi
      have cb := rdW (k.at hm.drew) i hi'
      have pa := rdW_ptr h (by omega)
      have pb := rdW_ptr k (by omega)
      have tl := gi_take_snoc l i hi
      have tm := gi_take_snoc m i hi'
      simp at ca cb
      simp [e0, e5, hS, hL]
      refine ite_r (t := true) (by simp [hi]) (fun _ => ?_) (fun h => by cases h)
      simp [wp_blk, wp_draw, e0, e1, e5, hS, hL, kS, kL, pa, pb, ca, cb, hi, hi']
      by_cases he : gi l i = gi m i
      · refine ite_r (t := false) (by simp [he]) (fun h => by cases h) (fun _ => ?_)
        simp [e0, e1, e5, wi]
        exact ⟨hm.drew, by rw [tl, tm, ha, he]⟩
      · refine ite_r (t := true) (by simp [he]) (fun _ => ?_) (fun h => by cases h)
        simp
        exact ⟨fun e => he (by rw [e]), hm.drew⟩
    · rintro env w' ⟨e0, e1, e5, hm, ha⟩
      simp [e0, e5, hS, hL]
      refine ite_r (t := false) (by simp) (fun h => by cases h) (fun _ => ?_)
      simp
      refine ⟨?_, hm⟩
      have : l = m := by
        have h1 : l.take l.length = l := List.take_length
        have h2 : m.take l.length = m := by rw [hlm]; exact List.take_length
        rw [← h1, ha, h2]
      exact this
  · refine ite_r (t := true) (by simp [hlm]; omega) (fun _ => ?_) (fun h => by cases h)
    simp [Mod.refl]
    exact fun e => hlm (by rw [e])

/-- What counts cost, as sums are made. -/
def twN (f l : List Int) : Nat → Int
  | 0 => 0
  | i + 1 => IntKind.i64.wrap (twN f l i + IntKind.i64.wrap (gi f i * gi l i))

set_option maxHeartbeats 2000000 in
theorem total_c {F G : Nat → Prop} {w : World} {u v : Value} {f l : List Int} (h : Rd F w u f.length (intsV f)) (k : Rd G w v l.length (intsV l)) (hf : f.length ≤ 1000000) (hl : l.length ≤ 1000000) :
    Calls Try.prog 20 [u, v].toArray w (Ret fun r w' => r = .int .i64 (twN f l (min f.length l.length)) ∧ Mod none' w w') := by
  refine F_sound c20 (by simp [fc20]) ?_
  obtain ⟨hS, hL⟩ := h.sl
  obtain ⟨kS, kL⟩ := k.sl
  have hmn : (if l.length < f.length then (l.length : Int) else f.length) = ((min f.length l.length : Nat) : Int) := by split <;> omega
  simp [fc20, s20, hS, hL, kS, kL]
  simp only [hmn]
  generalize hn : min f.length l.length = n at *
  refine for_r n (fun i env' w' => env' 0 = u ∧ env' 1 = v ∧ env' 11 = .int .i64 n ∧ env' 12 = .int .i64 i ∧ env' 5 = .int .i64 (twN f l i) ∧ Mod none' w w') ?_ ?_ ?_
  · simp [Mod.refl, twN]
  · rintro i env w' hi ⟨e0, e1, e11, e12, e5, hm⟩
    have wi : IntKind.i64.wrap ((i : Int) + 1) = ((i + 1 : Nat) : Int) := by rw [wI (by omega) (by omega)]; omega
    have ca := (h.at hm.drew).gi i (by omega)
    have cb := (k.at hm.drew).gi i (by omega)
    have pa := h.some (by omega)
    have pb := k.some (by omega)
    simp at ca cb
    simp [e11, e12]
    refine ite_r (t := true) (by simp [hi]) (fun _ => ?_) (fun h => by cases h)
    simp [wp_blk, wp_draw, e0, e1, e5, e12, hS, hL, kS, kL, pa, pb, ca, cb, show i < f.length by omega, show i < l.length by omega]
    simp [e0, e1, e11, e12, wi, twN]
    exact hm.drew
  · rintro env w' ⟨e0, e1, e11, e12, e5, hm⟩
    simp [e11, e12]
    refine ite_r (t := false) (by simp) (fun h => by cases h) (fun _ => ?_)
    simp [e5]
    exact hm

set_option maxHeartbeats 2000000 in
theorem total2_c {F G : Nat → Prop} {w : World} {u v : Value} {f l : List Int} (h : Rd F w u f.length (intsV f)) (k : Rd G w v l.length (intsV l)) (hf : f.length ≤ 1000000) (hl : l.length ≤ 1000000) :
    Calls Try.prog 21 [u, v].toArray w (Ret fun r w' => r = .int .i64 (twN f l (min f.length l.length)) ∧ Mod none' w w') := by
  refine F_sound c21 (by simp [fc21]) ?_
  obtain ⟨hS, hL⟩ := h.sl
  obtain ⟨kS, kL⟩ := k.sl
  simp [fc21, s21, hS, hL, kS, kL]
  generalize hn : min f.length l.length = n at *
  refine for_r n (fun i env' w' => env' 0 = u ∧ env' 1 = v ∧ env' 6 = .int .i64 i ∧ env' 5 = .int .i64 (twN f l i) ∧ Mod none' w w') ?_ ?_ ?_
  · simp [Mod.refl, twN]
  · rintro i env w' hi ⟨e0, e1, e6, e5, hm⟩
    have wi : IntKind.i64.wrap ((i : Int) + 1) = ((i + 1 : Nat) : Int) := by rw [wI (by omega) (by omega)]; omega
    have ca := (h.at hm.drew).gi i (by omega)
    have cb := (k.at hm.drew).gi i (by omega)
    have pa := h.some (by omega)
    have pb := k.some (by omega)
    simp at ca cb
    simp [e0, e1, e6, hS, hL, kS, kL]
    refine ite_r (t := true) (by simp; omega) (fun _ => ?_) (fun h => by cases h)
    simp [wp_blk, wp_draw, e0, e1, e5, e6, hS, hL, kS, kL, pa, pb, ca, cb, show i < f.length by omega, show i < l.length by omega]
    simp [e0, e1, e6, wi, twN]
    exact hm.drew
  · rintro env w' ⟨e0, e1, e6, e5, hm⟩
    simp [e0, e1, e6, hS, hL, kS, kL]
    refine ite_r (t := false) (by simp; omega) (fun h => by cases h) (fun _ => ?_)
    simp [e5]
    exact hm

end Go.Proofs.Ytgjnfajdejkkjaa.VG
