/-
  Long: the laws LongRound, LongNone, LongLater.
-/
import Derived.Test.YtdpnaaggjgmaiaaLg
namespace Go.Proofs.Ytdpnaaggjgmaiaa.VG
open Go
set_option linter.unusedSimpArgs false
set_option linter.unusedVariables false

theorem restS_ok {l : List Int} {lag : Int} {t : List Int} (h : (restS l lag t).2 = 0) : mayB lag t = true ∧ allW l = true ∧ allW (restL l lag t) = true ∧ restS l lag t = (restL l lag t, 0) := by
  cases h1 : mayB lag t
  · simp [restS, h1] at h
  · cases h2 : allW l
    · simp [restS, h1, h2] at h
    · cases h3 : allW (restL l lag t)
      · simp [restS, h1, h2, h3] at h
      · exact ⟨rfl, rfl, rfl, restS_of h1 h2 h3⟩
theorem backS_ok {l : List Int} {lag : Int} {t : List Int} (h : (backS l lag t).2 = 0) : mayB lag t = true ∧ allW l = true ∧ ∃ m, backF lag t [] l = some m ∧ backS l lag t = (m, 0) := by
  cases h1 : mayB lag t
  · simp [backS, h1] at h
  · cases h2 : allW l
    · simp [backS, h1, h2] at h
    · cases h3 : backF lag t [] l with
      | none => simp [backS, h1, h2, h3] at h
      | some m => exact ⟨rfl, rfl, m, rfl, backS_of h1 h2 h3⟩
theorem backS_nil {l : List Int} {lag : Int} {t : List Int} (h : (backS l lag t).2 ≠ 0) : (backS l lag t).1 = [] := by
  unfold backS at *
  split
  · rfl
  · split
    · rfl
    · split
      · rfl
      · simp_all

theorem gi_append_len (a b : List Int) (j : Nat) : gi (a ++ b) (a.length + j) = gi b j := by
  simp [gi, List.getElem?_append_right]
theorem rest_back {l : List Int} {lag : Int} {t : List Int} (hlag : 2 ≤ lag) (hl : allW l = true) : ∀ k i, i + k = l.length → backF lag t (l.take i) ((restL l lag t).drop i) = some l
  | 0, i, h => by
    rw [List.drop_eq_nil_of_le (by rw [restL_len]; omega), backF, List.take_of_length_le (by omega)]
  | k + 1, i, h => by
    have hi : i < l.length := by omega
    have hlt : (l.take i).length = i := by rw [List.length_take]; omega
    rw [drop_gi _ i (by rw [restL_len]; exact hi), backF, hlt, restL_gi l lag t i hi]
    rw [guess_congr (l := l.take i) (m := l) hlag (fun j hj => gi_take l i j hj)]
    rw [show gi l i - guess l i lag t + guess l i lag t = gi l i by omega]
    rw [if_pos (wideB_iff.2 (allW_gi hl i hi)), ← gi_take_snoc l i hi]
    exact rest_back hlag hl k (i + 1) (by omega)
theorem back_of_rest {l : List Int} {lag : Int} {t : List Int} (h : (restS l lag t).2 = 0) (ht : Taps t) : backS (restS l lag t).1 lag t = (l, 0) := by
  obtain ⟨h1, h2, h3, h4⟩ := restS_ok h
  rw [h4]
  have hlag := ((mayB_iff ht).1 h1).1.1
  exact backS_of h1 h3 (rest_back hlag h2 l.length 0 (by omega))

theorem backF_spec {lag : Int} {t : List Int} (hlag : 2 ≤ lag) : ∀ (rs row m : List Int), backF lag t row rs = some m → allW row = true → allW m = true ∧ (∀ i, i < row.length → gi m i = gi row i) ∧
    ∀ j, j < rs.length → gi m (row.length + j) - guess m ((row.length + j : Nat) : Int) lag t = gi rs j
  | [], row, m, h, ha => by
    simp only [backF, Option.some.injEq] at h
    subst h
    exact ⟨ha, fun _ _ => rfl, fun j hj => by simp at hj⟩
  | r :: rs, row, m, h, ha => by
    simp only [backF] at h
    split at h
    · rename_i hw
      obtain ⟨h1, h2, h3⟩ := backF_spec hlag rs _ m h (allW_snoc ha hw)
      have h4 : ∀ i, i < row.length → gi m i = gi row i := fun i hi => by rw [h2 i (by simp; omega), gi_app_left _ _ _ hi]
      refine ⟨h1, h4, fun j hj => ?_⟩
      cases j with
      | zero =>
        rw [Nat.add_zero, h2 row.length (by simp), guess_congr (l := m) (m := row) hlag h4]
        have : gi (row ++ [r + guess row row.length lag t]) row.length = r + guess row row.length lag t := by
          have := gi_append_len row [r + guess row row.length lag t] 0
          rw [Nat.add_zero] at this
          rw [this]; rfl
        rw [this]
        show r + guess row row.length lag t - guess row row.length lag t = r
        omega
      | succ j =>
        have := h3 j (by simpa using hj)
        rw [List.length_append, List.length_singleton, show row.length + 1 + j = row.length + (j + 1) by omega] at this
        rw [this]; rfl
    · cases h
theorem rest_of_back {l : List Int} {lag : Int} {t : List Int} (h : (backS l lag t).2 = 0) (ht : Taps t) : restS (backS l lag t).1 lag t = (l, 0) := by
  obtain ⟨h1, h2, m, h3, h4⟩ := backS_ok h
  rw [h4]
  have hlag := ((mayB_iff ht).1 h1).1.1
  obtain ⟨h5, _, h6⟩ := backF_spec hlag l [] m h3 rfl
  have hm : m.length = l.length := by have := backF_len _ _ _ h3; simpa using this
  have hr : restL m lag t = l := by
    apply List.ext_getElem
    · rw [restL_len, hm]
    · intro i h7 h8
      have h9 := h6 i h8
      simp only [List.length_nil, Nat.zero_add] at h9
      have h10 := restL_gi m lag t i (by omega)
      rw [h9] at h10
      simpa [gi, h7, h8] using h10
  show restS m lag t = (l, 0)
  rw [restS_of h1 h5 (by rw [hr]; exact h2), hr]

set_option maxHeartbeats 2000000 in
theorem round_c {w : World} {u v : Value} {l rs : List Int} (h : Rd (fun k => k < w.heap.size) w u l.length (intsV l)) (hl : l.length ≤ maxLen) (k : Rd (fun k => k < w.heap.size) w v rs.length (intsV rs)) (hk : rs.length ≤ maxLen) (lag : Int) (t : List Int) (ht : Taps t) :
    Calls Try.prog 5 [u, v, .int .i64 lag, tapV t].toArray w (Ret fun r w' => r = .bool true ∧ Mod none' w w') := by
  refine F_sound c5 (by simp [fc5]) ?_
  obtain ⟨hS, hL⟩ := h.sl
  obtain ⟨kS, kL⟩ := k.sl
  simp [fc5, s5]
  refine box_h (tapV t) (Hp.nil w) (by simp) ?_
  intro b w1 H M1
  refine ⟨.inl rfl, ?_⟩
  simp
  refine callm lknown_c (by simp) ?_
  intro w2 M2
  replace H := H.same M2
  simp
  refine ite_r (t := false) (by simp) (fun h => by cases h) (fun _ => ?_)
  simp [hS, hL, kS, kL]
  by_cases hbig : 300 < l.length ∨ 300 < rs.length
  · refine ite_r (t := true) (by simp; omega) (fun _ => ?_) (fun h => by cases h)
    simp [H.mod]
  refine ite_r (t := false) (by simp; omega) (fun h => by cases h) (fun _ => ?_)
  obtain ⟨hb, hcs⟩ := tap_box ht (H.blk 0 rfl)
  simp [hcs]
  refine ⟨fun j hj => by rw [hb j hj]; rfl, ?_⟩
  refine call_h (rest_c lag t (h.at H.mod) (by omega) ht) (by simp [tapV]) ?_
  rintro r w3 ⟨r1, rfl, hr1⟩
  replace H := H.join hr1
  simp
  refine ite_cut (t := decide ((restS l lag t).2 = 0)) (fun env' w' => env' 0 = u ∧ env' 1 = v ∧ env' 2 = .int .i64 lag ∧ env' 7 = .pointer (some ⟨b, 0, none⟩) ∧ Hp w w' [.blk b (tapV t).cells]) ?_ ?_ ?_ ?_
  · simp
    exact Bool.eq_iff_iff.2 (by simp)
  · intro hok
    have hok : (restS l lag t).2 = 0 := by simpa using hok
    have hbr := back_of_rest hok ht
    obtain ⟨hb, hcs⟩ := tap_box ht (H.blk 0 rfl)
    simp [hcs]
    refine ⟨fun j hj => by rw [hb j hj]; rfl, ?_⟩
    refine call_h (back_c lag t (H.rd 1 rfl) (by have := restS_len l lag t; omega) ht) (by simp [tapV]) ?_
    rw [hbr]
    rintro r w4 ⟨r2, rfl, hr2⟩
    replace H := H.join hr2
    simp
    refine ifg_r (t := false) (by simp) (fun _ => ?_) (fun h => (h rfl).elim)
    refine callm (sameInts_c (h.at H.mod) (H.rd 2 rfl) hl) (by simp) ?_
    intro w5 M5
    replace H := H.same M5
    simp
    refine ite_r (t := false) (by simp) (fun h => by cases h) (fun _ => ?_)
    simp
    exact (H.drop 2).drop 1
  · intro hok
    simp
    exact H.drop 1
  · rintro env w3 ⟨e0, e1, e2, e7, H⟩
    obtain ⟨hb, hcs⟩ := tap_box ht (H.blk 0 rfl)
    simp [hcs, e7]
    refine ⟨fun j hj => by rw [hb j hj]; rfl, ?_⟩
    refine call_h (back_c lag t (k.at H.mod) (by omega) ht) (by simp [tapV, e1, e2]) ?_
    rintro r w4 ⟨r2, rfl, hr2⟩
    replace H := H.join hr2
    obtain ⟨rS, rL⟩ := (H.rd 1 rfl).sl
    simp
    by_cases hok : (backS rs lag t).2 = 0
    · refine ite_r (t := false) (by simp [hok]) (fun h => by cases h) (fun _ => ?_)
      have hbr := rest_of_back hok ht
      obtain ⟨hb, hcs⟩ := tap_box ht (H.blk 0 rfl)
      simp [hcs, e7]
      refine ⟨fun j hj => by rw [hb j hj]; rfl, ?_⟩
      refine call_h (rest_c lag t (H.rd 1 rfl) (by have := backS_len rs lag t; omega) ht) (by simp [tapV, e2]) ?_
      rw [hbr]
      rintro r w5 ⟨r3, rfl, hr3⟩
      replace H := H.join hr3
      simp
      refine ifg_r (t := true) (by simp) (fun _ => ?_) (fun h => (h rfl).elim)
      refine callm (sameInts_c (H.rd 2 rfl) (k.at H.mod) hk) (by simp [e1]) ?_
      intro w6 M6
      replace H := H.same M6
      simp
      exact H.mod
    · refine ite_r (t := true) (by simp [hok]) (fun _ => ?_) (fun h => by cases h)
      simp [rS, rL, backS_nil hok]
      exact H.mod

/-! ### Nothing guessed -/
theorem guess_zero (l : List Int) (n lag : Int) (t : List Int) (h : ∀ i : Nat, i < 3 → term l n lag t i = 0) : guess l n lag t = 0 := by
  simp [guess, psum, h]
theorem restL_id {l : List Int} {lag : Int} {t : List Int} (h : ∀ i : Nat, i < l.length → guess l i lag t = 0) : restL l lag t = l := by
  apply List.ext_getElem
  · rw [restL_len]
  · intro i h1 h2
    have := restL_gi l lag t i h2
    rw [h i h2] at this
    simpa [gi, h1, h2] using this
theorem none_a {l : List Int} {lag : Int} (h1 : 2 ≤ lag) (h2 : lag ≤ 1024) (ha : allW l = true) : restS l lag [0, 0, 0] = (l, 0) := by
  have hr : restL l lag [0, 0, 0] = l := restL_id fun i hi => guess_zero _ _ _ _ fun j hj => by
    unfold term
    split
    · obtain rfl | rfl | rfl : j = 0 ∨ j = 1 ∨ j = 2 := by omega
      all_goals simp [gi]
    · rfl
  rw [restS_of ?_ ha (by rw [hr]; exact ha), hr]
  rw [mayB_iff (show Taps [0, 0, 0] from rfl)]
  refine ⟨⟨h1, h2⟩, fun j hj => ?_⟩
  obtain rfl | rfl | rfl : j = 0 ∨ j = 1 ∨ j = 2 := by omega
  all_goals simp [gi]
theorem none_b {l : List Int} {lag : Int} {t : List Int} (hm : mayB lag t = true) (ha : allW l = true) (hl : (l.length : Int) ≤ lag - 1) : restS l lag t = (l, 0) := by
  have hr : restL l lag t = l := restL_id fun i hi => guess_zero _ _ _ _ fun j hj => by
    unfold term
    rw [if_neg (by omega)]
  rw [restS_of hm ha (by rw [hr]; exact ha), hr]

set_option maxHeartbeats 2000000 in
theorem none_c {w : World} {u : Value} {l : List Int} (h : Rd (fun k => k < w.heap.size) w u l.length (intsV l)) (hl : l.length ≤ maxLen) (lag : Int) (t : List Int) (ht : Taps t) :
    Calls Try.prog 7 [u, .int .i64 lag, tapV t].toArray w (Ret fun r w' => r = .bool true ∧ Mod none' w w') := by
  refine F_sound c7 (by simp [fc7]) ?_
  obtain ⟨hS, hL⟩ := h.sl
  simp [fc7, s7]
  refine box_h (tapV t) (Hp.nil w) (by simp) ?_
  intro b w1 H M1
  refine ⟨.inl rfl, ?_⟩
  simp
  refine callm lknown_c (by simp) ?_
  intro w2 M2
  replace H := H.same M2
  simp
  refine ite_r (t := false) (by simp) (fun h => by cases h) (fun _ => ?_)
  simp [hS, hL]
  by_cases hbig : 300 < l.length
  · have hbig' : (300 : Int) < l.length := by omega
    refine ifg_r (t := true) (by simp [hbig']) (fun h => by cases h) (fun _ => ?_)
    simp [hbig']
    refine ite_r (t := true) (by simp [hbig']) (fun _ => ?_) (fun h => by cases h)
    simp [H.mod]
  refine ifg_r (t := false) (by simp; omega) (fun _ => ?_) (fun h => (h rfl).elim)
  refine callp (allWide2_c (h.at H.mod) hl) (by simp) ?_
  simp
  by_cases hbig2 : allW l = false ∨ lag < 2 ∨ 1024 < lag
  · refine ite_r (t := true) (by rcases hbig2 with h | h | h <;> simp [h]) (fun _ => ?_) (fun h => by cases h)
    simp [H.mod]
  have ha : allW l = true := by simpa using fun h => hbig2 (.inl h)
  have hlag : 2 ≤ lag ∧ lag ≤ 1024 := by
    rw [not_or] at hbig2
    omega
  refine ite_r (t := false) (by simp [ha]; omega) (fun h => by cases h) (fun _ => ?_)
  simp
  refine call_h (rest_c lag [0, 0, 0] (h.at H.mod) (by omega) rfl) (by simp [tapV, intsV]) ?_
  rw [none_a (by omega) (by omega) ha]
  rintro r w3 ⟨r1, rfl, hr1⟩
  replace H := H.join hr1
  simp
  refine ifg_r (t := false) (by simp) (fun _ => ?_) (fun h => (h rfl).elim)
  refine callm (sameInts_c (H.rd 1 rfl) (h.at H.mod) hl) (by simp) ?_
  intro w4 M4
  replace H := H.same M4
  simp
  refine ite_r (t := false) (by simp) (fun h => by cases h) (fun _ => ?_)
  obtain ⟨hb, hcs⟩ := tap_box ht (H.blk 0 rfl)
  simp [hcs]
  refine ⟨fun j hj => by rw [hb j hj]; rfl, ?_⟩
  refine callm (may_c lag t ht) (by simp [tapV]) ?_
  intro w5 M5
  replace H := H.same M5
  simp (disch := omega) [wI, wU, tmod_nn, tdiv_nn, env0_0, env0_1, env0_2, env0_3, env0_4, env0_5, -env0_apply, hS, hL]
  by_cases hno : mayB lag t = false ∨ lag - 1 < l.length
  · refine ite_r (t := true) (by simp; rcases hno with h | h <;> simp [h]) (fun _ => ?_) (fun h => by cases h)
    simp [H.mod]
  have hm : mayB lag t = true := by simpa using fun h => hno (.inl h)
  refine ite_r (t := false) (by simp [hm]; omega) (fun h => by cases h) (fun _ => ?_)
  obtain ⟨hb, hcs⟩ := tap_box ht (H.blk 0 rfl)
  simp [hcs]
  refine ⟨fun j hj => by rw [hb j hj]; rfl, ?_⟩
  refine call_h (rest_c lag t (h.at H.mod) (by omega) ht) (by simp [tapV]) ?_
  rw [none_b hm ha (by omega)]
  rintro r w6 ⟨r2, rfl, hr2⟩
  replace H := H.join hr2
  simp
  refine ifg_r (t := true) (by simp) (fun _ => ?_) (fun h => (h rfl).elim)
  refine callm (sameInts_c (H.rd 2 rfl) (h.at H.mod) hl) (by simp) ?_
  intro w7 M7
  replace H := H.same M7
  simp
  exact H.mod

/-! ### Later -/
theorem gi_zeros (n i : Nat) (l : List Int) : gi (List.replicate n 0 ++ l) (n + i) = gi l i := by
  have := gi_append_len (List.replicate n 0) l i
  rwa [List.length_replicate] at this
theorem gi_zero (n i : Nat) (l : List Int) (h : i < n) : gi (List.replicate n 0 ++ l) i = 0 := by
  rw [gi_app_left _ _ _ (by simpa using h)]
  simp [gi, h]
theorem later_term (l : List Int) (n i : Nat) (lag : Int) (t : List Int) (j : Nat) : term (List.replicate n 0 ++ l) ((n + i : Nat) : Int) lag t j = term l i lag t j := by
  unfold term
  by_cases h1 : 0 ≤ (i : Int) - lag - 1 + j
  · rw [if_pos (by omega), if_pos h1, show (((n + i : Nat) : Int) - lag - 1 + j).toNat = n + ((i : Int) - lag - 1 + j).toNat by omega, gi_zeros]
  · rw [if_neg h1]
    split
    · rw [gi_zero n _ l (by omega)]; omega
    · rfl
theorem later_guess (l : List Int) (n i : Nat) (lag : Int) (t : List Int) : guess (List.replicate n 0 ++ l) ((n + i : Nat) : Int) lag t = guess l i lag t := by
  simp only [guess, psum, later_term]
theorem later_first (l : List Int) (n i : Nat) (lag : Int) (t : List Int) (h : i < n) (hlag : 2 ≤ lag) : guess (List.replicate n 0 ++ l) i lag t = 0 := guess_zero _ _ _ _ fun j hj => by
  unfold term
  split
  · rw [gi_zero n _ l (by omega)]; omega
  · rfl
theorem later_restL (l : List Int) (n : Nat) (lag : Int) (t : List Int) (hlag : 2 ≤ lag) : restL (List.replicate n 0 ++ l) lag t = List.replicate n 0 ++ restL l lag t := by
  refine gi_ext (by simp [restL_len]) fun i h1 => ?_
  rw [restL_len] at h1
  rw [restL_gi (List.replicate n 0 ++ l) lag t i h1]
  by_cases hi : i < n
  · rw [gi_zero n i _ hi, gi_zero n i _ hi, later_first l n i lag t hi hlag]; rfl
  · obtain ⟨j, rfl⟩ : ∃ j, i = n + j := ⟨i - n, by omega⟩
    rw [gi_zeros, gi_zeros, later_guess, restL_gi l lag t j (by simp at h1; omega)]
theorem allW_zeros (l : List Int) (n : Nat) : allW (List.replicate n 0 ++ l) = allW l := by
  simp only [allW, List.all_append]
  have : (List.replicate n (0 : Int)).all wideB = true := by rw [List.all_eq_true]; intro x hx; rw [List.mem_replicate] at hx; rw [hx.2]; decide
  rw [this, Bool.true_and]
theorem later (l : List Int) (n : Nat) (lag : Int) (t : List Int) (ht : Taps t) :
    restS (List.replicate n 0 ++ l) lag t = if (restS l lag t).2 = 0 then (List.replicate n 0 ++ (restS l lag t).1, 0) else ([], (restS l lag t).2) := by
  cases h1 : mayB lag t
  · simp [restS, h1]
  · have hlag := ((mayB_iff ht).1 h1).1.1
    cases h2 : allW l
    · simp [restS, h1, h2, allW_zeros]
    · cases h3 : allW (restL l lag t)
      · simp [restS, h1, h2, h3, allW_zeros, later_restL l n lag t hlag]
      · simp [restS, h1, h2, h3, allW_zeros, later_restL l n lag t hlag]

theorem intsV_zeros (n : Nat) : (madeCells (Value.int .i64 0).cells (n * 1)).toList = intsV (List.replicate n 0) := by
  apply List.ext_getElem
  · simp [size_madeCells, intsV]
  · intro i h1 h2
    simp [madeCells, intsV, Value.cells, Nat.mod_one]
theorem zero64 {z : Value} (h : ∃ i, Try.prog.info? 3 = some i ∧ i.zero = some z) : z = .int .i64 0 := by
  obtain ⟨i, hi, hz⟩ := h
  obtain ⟨j, h3, h4⟩ : ∃ j, Try.prog.info? 3 = some j ∧ j.zero = some (.int .i64 0) := ⟨_, rfl, rfl⟩
  rw [h3] at hi
  cases hi
  rw [h4] at hz
  cases hz
  rfl
end Go.Proofs.Ytdpnaaggjgmaiaa.VG
