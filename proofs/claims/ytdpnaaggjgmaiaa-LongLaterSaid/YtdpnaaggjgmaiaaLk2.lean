/-
  Long: the law LongLater.
-/
import Derived.Test.YtdpnaaggjgmaiaaLj
namespace Go.Proofs.Ytdpnaaggjgmaiaa.VG
open Go
set_option linter.unusedSimpArgs false
set_option linter.unusedVariables false

set_option maxHeartbeats 2000000 in
theorem later_c {w : World} {u : Value} {l : List Int} (h : Rd (fun k => k < w.heap.size) w u l.length (intsV l)) (hl : l.length ≤ maxLen) (lag : Int) (t : List Int) (ht : Taps t) (n : Nat) (hn : n < 256) :
    Calls Try.prog 8 [u, .int .i64 lag, tapV t, .int .u8 n].toArray w (Ret fun r w' => r = .bool true ∧ Mod none' w w') := by
  refine F_sound c8 (by simp [fc8]) ?_
  obtain ⟨hS, hL⟩ := h.sl
  simp [fc8, s8]
  refine box_h (tapV t) (Hp.nil w) (by simp) ?_
  intro b w1 H M1
  refine ⟨.inl rfl, ?_⟩
  simp
  refine callm lknown_c (by simp) ?_
  intro w2 M2
  replace H := H.same M2
  simp
  refine ite_r (t := false) (by simp) (fun h => by cases h) (fun _ => ?_)
  simp [hS, hL]
  by_cases hbig : 200 < l.length
  · refine ite_r (t := true) (by simp; omega) (fun _ => ?_) (fun h => by cases h)
    simp [H.mod]
  refine ite_r (t := false) (by simp; omega) (fun h => by cases h) (fun _ => ?_)
  simp
  refine mkN_h slTI (kl := .u8) (kc := .u8) (n := n) (xs := intsV (List.replicate n 0)) H (by simp) (by simp) (by omega) (by unfold maxLen; omega) (fun z hz => by rw [zero64 hz, intsV_zeros]) ?_
  intro av w3 H M3
  refine ⟨.inl rfl, ?_⟩
  obtain ⟨hb, hcs⟩ := tap_box ht (H.blk 0 rfl)
  simp [hcs]
  refine ⟨fun j hj => by rw [hb j hj]; rfl, ?_⟩
  refine call_h (rest_c lag t (h.at H.mod) (by omega) ht) (by simp [tapV]) ?_
  rintro r w4 ⟨r1, rfl, hr1⟩
  replace H := (H.join hr1).drew
  have hrl := restS_len l lag t
  obtain ⟨hb, hcs⟩ := tap_box ht (H.blk 0 rfl)
  have hcs' := hcs
  rw [cellsFrom_drew] at hcs'
  simp [hcs']
  refine ⟨fun j hj => by rw [← cell_drew, hb j hj]; rfl, ?_⟩
  have hz0 : (List.replicate n (0 : Int)).length = n := by simp
  refine bs_h slTI [] H rfl (by decide) (by simp) (by simp) ?_
  intro v5 w5 H M5
  obtain ⟨hb5, _⟩ := tap_box ht (H.blk 0 rfl)
  refine ⟨.inr ⟨by simp [promOk, SameCells]; exact fun j hj => by rw [hb5 j hj, ← cell_drew, hb j hj], trivial⟩, ?_⟩
  refine app_h slTI 3 H rfl (ys := intsV (List.replicate n 0)) (nu := n) (H.rd 1 rfl) (by simp [intsV]) (intsV_one _) (by omega) (by unfold maxLen; omega) (by simp) (by simp) ?_
  intro v6 w6 H
  obtain ⟨hb6, _⟩ := tap_box ht (H.blk 0 rfl)
  refine ⟨.inr ⟨by simp [promOk, SameCells]; exact fun j hj => by rw [hb6 j hj, hb5 j hj], trivial⟩, ?_⟩
  refine app_h slTI 3 H rfl (ys := intsV l) (nu := l.length) (h.at H.mod) (by simp [intsV]) (intsV_one _) (by omega) (by unfold maxLen; omega) (by simp) (by simp) ?_
  intro v7 w7 H
  obtain ⟨hb7, _⟩ := tap_box ht (H.blk 0 rfl)
  refine ⟨.inr ⟨by simp [promOk, SameCells]; exact fun j hj => by rw [hb7 j hj, hb6 j hj], trivial⟩, ?_⟩
  have hrd := H.rd 3 rfl
  simp only [List.flatMap_nil, List.nil_append, intsV_app, Nat.zero_add] at hrd
  refine call_h (rest_c lag t (l := List.replicate n 0 ++ l) (by simpa using hrd) (by simp; omega) ht) (by simp [tapV]) ?_
  rw [later l n lag t ht]
  rintro r w8 ⟨r2, rfl, hr2⟩
  replace H := H.join hr2
  obtain ⟨rS, rL⟩ := (H.rd 4 rfl).sl
  simp
  by_cases hok : (restS l lag t).2 = 0
  · simp only [if_pos hok] at *
    refine ite_r (t := false) (by simp [hok]) (fun h => by cases h) (fun _ => ?_)
    simp
    refine ifg_r (t := true) (by simp) (fun _ => ?_) (fun h => (h rfl).elim)
    refine bs_h slTI [] H rfl (by decide) (by simp) (by simp) ?_
    intro v9 w9 H M9
    refine ⟨.inl rfl, ?_⟩
    simp
    refine ifg_r (t := true) (by simp) (fun _ => ?_) (fun h => (h rfl).elim)
    refine app_h slTI 5 H rfl (ys := intsV (List.replicate n 0)) (nu := n) (H.rd 1 rfl) (by simp [intsV]) (intsV_one _) (by omega) (by unfold maxLen; omega) (by simp) (by simp) ?_
    intro v10 w10 H
    refine ⟨.inl rfl, ?_⟩
    simp
    refine ifg_r (t := true) (by simp) (fun _ => ?_) (fun h => (h rfl).elim)
    refine app_h slTI 5 H rfl (ys := intsV (restS l lag t).1) (nu := (restS l lag t).1.length) (H.rd 2 rfl) (by simp [intsV]) (intsV_one _) (by omega) (by unfold maxLen; omega) (by simp) (by simp) ?_
    intro v11 w11 H
    refine ⟨.inl rfl, ?_⟩
    simp
    refine ifg_r (t := true) (by simp) (fun _ => ?_) (fun h => (h rfl).elim)
    have hrd := H.rd 5 rfl
    simp only [List.flatMap_nil, List.nil_append, intsV_app, Nat.zero_add] at hrd
    refine callm (sameInts_c (m := List.replicate n 0 ++ (restS l lag t).1) (H.rd 4 rfl) (by simpa using hrd) (by simp [maxLen]; omega)) (by simp) ?_
    intro w12 M12
    replace H := H.same M12
    simp
    exact H.mod
  · simp only [if_neg hok] at *
    refine ite_r (t := true) (by simp [hok]) (fun _ => ?_) (fun h => by cases h)
    simp [rS, rL]
    exact H.mod

end Go.Proofs.Ytdpnaaggjgmaiaa.VG
