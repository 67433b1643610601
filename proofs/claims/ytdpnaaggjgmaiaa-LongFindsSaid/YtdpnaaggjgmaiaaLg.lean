/-
  Long: the known case; the laws LongRests, LongBacks.
-/
import Derived.Test.YtdpnaaggjgmaiaaLf
import Derived.Test.YtdpnaaggjgmaiaaHq
namespace Go.Proofs.Ytdpnaaggjgmaiaa.VG
open Go
set_option linter.unusedSimpArgs false
set_option linter.unusedVariables false

theorem RowErr.get {w w' : World} {r : Value} {s : List Int × Int} (h : RowErr w w' r s) : ∃ u, r = .tuple #[u, .int .i64 s.2] ∧ Hp w w' [.own 3 1 u s.1.length (intsV s.1)] ∧ Rd (fun k => w.heap.size ≤ k) w' u s.1.length (intsV s.1) := by
  obtain ⟨u, h1, h2⟩ := h
  exact ⟨u, h1, h2, h2.rd 0 rfl⟩

theorem row9 (l : List Int) : ((l.map fun n => Value.int .i64 n).flatMap fun e => e.cells.toList) = intsV l := flat_ints l

theorem slTT : SlT Try.prog 42 23 3 24 := ⟨by kernel_rfl, ⟨_, _, rfl, rfl, rfl, rfl, rfl⟩, by omega⟩
def tabL : List (List Int) := [[0, 0, 0], [0, 64, 0], [0, 32, 0], [16, 32, 16], [21, 22, 21], [0, 48, 0], [-8, 64, -8], [32, 32, 0], [0, 32, 32]]
def TabIs (w w' : World) (r : Value) : Prop := Hp w w' [.own 23 3 r 9 (tabL.flatMap intsV)]

theorem table_c {w : World} : Calls Try.prog 23 [].toArray w (Ret fun r w' => TabIs w w' r) := by
  refine F_sound c23 (by simp [fc23]) ?_
  simp [fc23, s23, putAt, Value.cells]
  refine bs_h slTT (tabL.map tapV) (Hp.nil w) rfl (by decide) (by simp [tabL, tapV, intsV, putAt, Value.cells]) (by simp [tabL, tapV, intsV, Value.cells]) ?_
  intro v w' H M
  refine ⟨.inl rfl, ?_⟩
  simp
  simpa [TabIs, tabL, tapV, Value.cells] using H
theorem longTable_c {w : World} : Calls Try.prog 30 [].toArray w (Ret fun r w' => TabIs w w' r) := by
  refine F_sound c30 (by simp [fc30]) ?_
  simp [fc30, s30, putAt, Value.cells]
  refine bs_h slTT (tabL.map tapV) (Hp.nil w) rfl (by decide) (by simp [tabL, tapV, intsV, putAt, Value.cells]) (by simp [tabL, tapV, intsV, Value.cells]) ?_
  intro v w' H M
  refine ⟨.inl rfl, ?_⟩
  simp
  simpa [TabIs, tabL, tapV, Value.cells] using H

theorem tapV3 (a b c : Int) : Value.agg #[.int .i64 a, .int .i64 b, .int .i64 c] = tapV [a, b, c] := rfl

set_option maxHeartbeats 1000000 in
theorem lknown_c {w : World} : Calls Try.prog 10 [].toArray w (Ret fun r w' => r = .bool true ∧ Mod none' w w') := by
  refine F_sound c10 (by simp [fc10]) ?_
  simp [fc10, s10, putAt, Value.cells]
  refine bs_h slTI (([5, -2, 0, 9, 5, -2, 0, 9, 5] : List Int).map fun n => .int .i64 n) (Hp.nil w) rfl (by decide) (by simp) (by simp [Value.cells]) ?_
  intro v w1 H M1
  rw [flat_ints] at H
  refine ⟨.inl rfl, ?_⟩
  simp [putAt, Value.cells]
  refine call_h (rest_c 4 [0, 64, 0] (l := [5, -2, 0, 9, 5, -2, 0, 9, 5]) (H.rd 0 rfl) (by decide) rfl) (by simp [tapV, intsV, putAt, Value.cells]) ?_
  rintro r w2 hr
  rw [show restS [5, -2, 0, 9, 5, -2, 0, 9, 5] 4 [0, 64, 0] = ([5, -2, 0, 9, 0, 0, 0, 0, 0], 0) by decide] at hr
  obtain ⟨u, rfl, hu, hur⟩ := hr.get
  replace H := H.join hu
  simp [putAt, Value.cells]
  refine call_h (back_c 4 [0, 64, 0] (l := [5, -2, 0, 9, 0, 0, 0, 0, 0]) (H.rd 1 rfl) (by decide) rfl) (by simp [tapV, intsV, putAt, Value.cells]) ?_
  rintro r w3 hr
  rw [show backS [5, -2, 0, 9, 0, 0, 0, 0, 0] 4 [0, 64, 0] = ([5, -2, 0, 9, 5, -2, 0, 9, 5], 0) by decide] at hr
  obtain ⟨u2, rfl, hu2, hur2⟩ := hr.get
  replace H := H.join hu2
  simp
  refine callm (find_c 2 5 (l := [5, -2, 0, 9, 5, -2, 0, 9, 5]) (H.rd 0 rfl) (by unfold maxLen; decide)) (by simp) ?_
  intro w4 M4
  rw [show findS [5, -2, 0, 9, 5, -2, 0, 9, 5] 2 5 = (4, 0) by decide]
  replace H := H.same M4
  simp
  refine ifg_r (t := true) (by simp) (fun _ => ?_) (fun h => (h rfl).elim)
  refine bs_h slTI (([5, -2, 0, 9, 0, 0, 0, 0, 0] : List Int).map fun n => .int .i64 n) H rfl (by decide) (by simp) (by simp [Value.cells]) ?_
  intro v5 w5 H M5
  rw [flat_ints] at H
  refine ⟨.inl rfl, ?_⟩
  simp
  refine ifg_r (t := true) (by simp) (fun _ => ?_) (fun h => (h rfl).elim)
  refine callm (sameInts_c (l := [5, -2, 0, 9, 0, 0, 0, 0, 0]) (m := [5, -2, 0, 9, 0, 0, 0, 0, 0]) (H.rd 1 rfl) (H.rd 3 rfl) (by unfold maxLen; decide)) (by simp) ?_
  intro w6 M6
  replace H := H.same M6
  simp
  refine ifg_r (t := true) (by simp) (fun _ => ?_) (fun h => (h rfl).elim)
  refine callm (sameInts_c (l := [5, -2, 0, 9, 5, -2, 0, 9, 5]) (m := [5, -2, 0, 9, 5, -2, 0, 9, 5]) (H.rd 2 rfl) (H.rd 0 rfl) (by unfold maxLen; decide)) (by simp) ?_
  intro w7 M7
  replace H := H.same M7
  simp
  refine ifg_r (t := true) (by simp) (fun _ => ?_) (fun h => (h rfl).elim)
  refine call_h table_c (by simp) ?_
  intro v8 w8 h8
  obtain ⟨hS8, hL8⟩ := (Hp.rd h8 0 rfl).sl
  simp [hS8, hL8]
  exact H.mod.tr h8.mod

set_option maxHeartbeats 1000000 in
theorem rests_c {w : World} {v : Value} {l : List Int} (h : Rd (fun k => k < w.heap.size) w v l.length (intsV l)) (hcap : l.length ≤ slC v) (hl : l.length ≤ maxLen) (lag : Int) (t : List Int) (ht : Taps t) :
    Calls Try.prog 3 [v, .int .i64 lag, tapV t].toArray w (Ret fun r w' => r = .bool true ∧ Mod none' w w') := by
  refine F_sound c3 (by simp [fc3]) ?_
  obtain ⟨hS, hL⟩ := h.sl
  simp [fc3, s3]
  refine box_h (tapV t) (Hp.nil w) (by simp) ?_
  intro b w1 H M1
  refine ⟨.inl rfl, ?_⟩
  simp
  refine callm lknown_c (by simp) ?_
  intro w2 M2
  replace H := H.same M2
  simp
  refine ite_r (t := false) (by simp) (fun h => by cases h) (fun _ => ?_)
  simp [hS, hL]
  by_cases hbig : 300 < l.length
  · refine ite_r (t := true) (by simp; omega) (fun _ => ?_) (fun h => by cases h)
    simp [H.mod]
  refine ite_r (t := false) (by simp; omega) (fun h => by cases h) (fun _ => ?_)
  obtain ⟨hb, hcs⟩ := tap_box ht (H.blk 0 rfl)
  simp [hcs]
  refine ⟨fun j hj => by rw [hb j hj]; rfl, ?_⟩
  refine call_h (rest_c lag t (h.at H.mod) (by omega) ht) (by simp [tapV]) ?_
  rintro r w3 ⟨u, rfl, hu⟩
  replace H := H.join hu
  obtain ⟨hb, hcs⟩ := tap_box ht (H.blk 0 rfl)
  simp [hcs]
  refine ⟨fun j hj => by rw [hb j hj]; rfl, ?_⟩
  refine call_h (longRest_c lag t (h.at H.mod) hcap (by omega) ht) (by simp [tapV]) ?_
  rintro r w4 ⟨u2, rfl, hu2⟩
  replace H := H.join hu2
  obtain ⟨hb, hcs⟩ := tap_box ht (H.blk 0 rfl)
  simp [hcs]
  refine ⟨fun j hj => by rw [hb j hj]; rfl, ?_⟩
  replace H := H.drew
  refine call_r _ (may_c lag t ht) (by simp [tapV]) ?_
  rintro r w5 ⟨rfl, M5⟩
  replace H := H.same M5
  obtain ⟨hb', hcs'⟩ := tap_box ht (H.blk 0 rfl)
  refine ⟨by simp [promOk, SameCells]; exact fun j hj => by rw [hb j hj, hb' j hj], ?_⟩
  refine callm (longMay_c lag t ht) (by simp [tapV]) ?_
  intro w6 M6
  replace H := H.same M6
  simp
  refine ifg_r (t := true) (by simp) (fun _ => ?_) (fun h => (h rfl).elim)
  refine callm (sameInts_c (H.rd 1 rfl) (H.rd 2 rfl) (by unfold restS maxLen; split; simp; split; simp; split; simp; simp [restL_len]; omega)) (by simp) ?_
  intro w7 M7
  replace H := H.same M7
  simp
  exact H.mod

set_option maxHeartbeats 1000000 in
theorem backF_len {lag : Int} {t : List Int} : ∀ (l row m : List Int), backF lag t row l = some m → m.length = row.length + l.length
  | [], row, m, h => by simp only [backF, Option.some.injEq] at h; subst h; simp
  | r :: rs, row, m, h => by
    simp only [backF] at h
    split at h
    · have := backF_len rs _ m h
      simp at this ⊢; omega
    · cases h
theorem backS_len (l : List Int) (lag : Int) (t : List Int) : (backS l lag t).1.length ≤ l.length := by
  unfold backS
  split
  · simp
  split
  · simp
  split
  · simp
  · rename_i m hm
    have := backF_len _ _ _ hm
    simp at this ⊢; omega
theorem restS_len (l : List Int) (lag : Int) (t : List Int) : (restS l lag t).1.length ≤ l.length := by
  unfold restS
  split
  · simp
  split
  · simp
  split
  · simp
  · simp [restL_len]

theorem backs_c {w : World} {v : Value} {l : List Int} (h : Rd (fun k => k < w.heap.size) w v l.length (intsV l)) (hl : l.length ≤ maxLen) (lag : Int) (t : List Int) (ht : Taps t) :
    Calls Try.prog 4 [v, .int .i64 lag, tapV t].toArray w (Ret fun r w' => r = .bool true ∧ Mod none' w w') := by
  refine F_sound c4 (by simp [fc4]) ?_
  obtain ⟨hS, hL⟩ := h.sl
  simp [fc4, s4]
  refine box_h (tapV t) (Hp.nil w) (by simp) ?_
  intro b w1 H M1
  refine ⟨.inl rfl, ?_⟩
  simp
  refine callm lknown_c (by simp) ?_
  intro w2 M2
  replace H := H.same M2
  simp
  refine ite_r (t := false) (by simp) (fun h => by cases h) (fun _ => ?_)
  simp [hS, hL]
  by_cases hbig : 300 < l.length
  · refine ite_r (t := true) (by simp; omega) (fun _ => ?_) (fun h => by cases h)
    simp [H.mod]
  refine ite_r (t := false) (by simp; omega) (fun h => by cases h) (fun _ => ?_)
  obtain ⟨hb, hcs⟩ := tap_box ht (H.blk 0 rfl)
  simp [hcs]
  refine ⟨fun j hj => by rw [hb j hj]; rfl, ?_⟩
  refine call_h (back_c lag t (h.at H.mod) (by omega) ht) (by simp [tapV]) ?_
  rintro r w3 ⟨u, rfl, hu⟩
  replace H := H.join hu
  obtain ⟨hb, hcs⟩ := tap_box ht (H.blk 0 rfl)
  simp [hcs]
  refine ⟨fun j hj => by rw [hb j hj]; rfl, ?_⟩
  refine call_h (longBack_c lag t (h.at H.mod) (by omega) ht) (by simp [tapV]) ?_
  rintro r w4 ⟨u2, rfl, hu2⟩
  replace H := H.join hu2
  simp
  refine callm (sameInts_c (H.rd 1 rfl) (H.rd 2 rfl) (by have := backS_len l lag t; omega)) (by simp) ?_
  intro w7 M7
  replace H := H.same M7
  simp
  exact H.mod

end Go.Proofs.Ytdpnaaggjgmaiaa.VG
