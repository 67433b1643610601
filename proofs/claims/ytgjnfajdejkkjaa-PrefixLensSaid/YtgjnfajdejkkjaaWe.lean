/-
  The library's stable sort: two sorted parts merged in place.
-/
import Derived.Test.YtgjnfajdejkkjaaWd
namespace Go.Proofs.Ytgjnfajdejkkjaa.VG
open Go
set_option linter.unusedSimpArgs false
set_option linter.unusedVariables false
set_option maxRecDepth 20000

theorem half_w {i j : Nat} (h : i + j < 4611686018427387904) : IntKind.i64.wrap (shr .u64 (IntKind.u64.wrap (IntKind.i64.wrap ((i : Int) + j))) 1) = (((i + j) / 2 : Nat) : Int) := by
  have e1 : IntKind.i64.wrap ((i : Int) + j) = ((i + j : Nat) : Int) := by rw [wI (by omega) (by omega)]; omega
  have e2 : IntKind.u64.wrap ((i + j : Nat) : Int) = ((i + j : Nat) : Int) := wU (by omega) (by omega)
  have e3 : shr .u64 ((i + j : Nat) : Int) ((1 : Nat) : Int) = (((i + j) / 2 ^ 1 : Nat) : Int) := shr_nat _ _ _ (by simp only [IntKind.bits]; omega)
  rw [e1, e2, show (1 : Int) = ((1 : Nat) : Int) from rfl, e3, Nat.pow_one]
  exact wI (by omega) (by omega)
theorem ltW_iff (T : List Nd) (x y : Nat) : ltW T x y = decide ((ndG T x).wt < (ndG T y).wt) := rfl

/-- Where the two parts are cut. -/
theorem mrg_cut {f : Nat → Int} {X Y : List Nat} {s h s0 t0 : Nat} (hX : Asc f X) (hY : Asc f Y) (hh : h = (X.length + Y.length) / 2) (h0 : s0 = if h < X.length then h - Y.length else 0) (ht : t0 = if h < X.length then h else X.length) (h1 : s0 ≤ s) (h2 : s ≤ t0)
    (a : s = s0 ∨ f (gnn X (s - 1)) ≤ f (gnn Y (h - s))) (b : s = t0 ∨ f (gnn Y (h - 1 - s)) < f (gnn X s)) : mrg f X Y = mrg f (X.take s) (Y.take (h - s)) ++ mrg f (X.drop s) (Y.drop (h - s)) := by
  have := mrg_split f (X.drop s) (Y.drop (h - s)) _ (X.take s) (Y.take (h - s)) rfl (fun x hx y hy => by
    obtain ⟨i, i1, i2, rfl⟩ := take_ix hx
    obtain ⟨j, j1, j2, rfl⟩ := drop_ix hy
    have e1 := asc_ix hX (i := i) (j := s - 1) (by omega) (by split at ht <;> omega)
    have e2 := asc_ix hY j1 j2
    rcases a with a | a
    · split at h0 <;> omega
    · omega) (fun y hy x hx => by
    obtain ⟨i, i1, i2, rfl⟩ := take_ix hy
    obtain ⟨j, j1, j2, rfl⟩ := drop_ix hx
    have e1 := asc_ix hX j1 j2
    have e2 := asc_ix hY (i := i) (j := h - 1 - s) (by omega) (by split at h0 <;> omega)
    rcases b with b | b
    · split at ht <;> omega
    · omega)
  rwa [List.take_append_drop, List.take_append_drop] at this

section
variable {W : World} {T : List Nd} {lb sb : Array Value} {sf g n : Nat}

def wtF (T : List Nd) (x : Nat) : Int := (ndG T x).wt

def SymH (W : World) (T : List Nd) (lb sb : Array Value) (sf g n F : Nat) : Prop := ∀ {w : World} {A X Y B : List Nat}, X.length + Y.length ≤ F → 0 < X.length → 0 < Y.length → Asc (wtF T) X → Asc (wtF T) Y → SRw W T g n (A ++ (X ++ (Y ++ B))) w → ∀ {a m b : Nat}, a = A.length → m = A.length + X.length → b = A.length + X.length + Y.length →
  Calls Try.prog 69 [dat lb sb sf, .int .i64 a, .int .i64 m, .int .i64 b].toArray w (Ret fun r w' => r = .tuple #[] ∧ SRw W T g n (A ++ (mrg (wtF T) X Y ++ B)) w' ∧ Mod (fun k => k = g) w w')

set_option maxHeartbeats 8000000 in
theorem symM_step (C : SC W T lb sb sf g n) (F : Nat) (ih : SymH W T lb sb sf g n F) : SymH W T lb sb sf g n (F + 1) := by
  intro w A X Y B hF hX0 hY0 hX hY H a m b ha hm hb
  refine F_sound c69 (by simp [fc69]) ?_
  have hlen : A.length + (X.length + (Y.length + B.length)) = n := by simpa using H.2
  have hsm := C.small
  have hne : w.heap.size ≠ g := by have := H.ge C; omega
  simp [fc69, s69]
  refine boxW_r (dat lb sb sf) (by simp) ?_
  intro hh M1
  have H1 := H.alloc (.cells (dat lb sb sf).cells 101)
  have D1 := DCell.mk' hh
  generalize w.alloc (.cells (dat lb sb sf).cells 101) = w1 at *
  generalize w.heap.size = q at *
  have wma : IntKind.i64.wrap ((m : Int) - a) = (X.length : Int) := by rw [wI (by omega) (by omega)]; omega
  have wbm : IntKind.i64.wrap ((b : Int) - m) = (Y.length : Int) := by rw [wI (by omega) (by omega)]; omega
  simp [wma, wbm]
  by_cases hx1 : X.length = 1
  · obtain ⟨x, rfl⟩ : ∃ x, X = [x] := List.length_eq_one_iff.1 hx1
    refine ite_r (t := true) (by simp) (fun _ => ?_) (fun h => by cases h)
    simp
    have gx : gnn (A ++ ([x] ++ (Y ++ B))) a = x := by rw [ha]; exact gnn_app A x (Y ++ B)
    have gy : ∀ t, t < Y.length → gnn (A ++ ([x] ++ (Y ++ B))) (m + t) = gnn Y t := fun t ht => by
      have := gnn_in (A ++ [x]) Y B ht
      rw [List.length_append] at this
      rw [hm]
      simpa using this
    refine loop_w (fun z env' w' => env' 1 = .int .i64 a ∧ env' 4 = .pointer (some ⟨q, 0, none⟩) ∧ ∃ s r, z = r - s ∧ s ≤ r ∧ r ≤ Y.length ∧ env' 8 = .int .i64 (m + s : Nat) ∧ env' 9 = .int .i64 (m + r : Nat) ∧ (s = 0 ∨ wtF T (gnn Y (s - 1)) < wtF T x) ∧ (r = Y.length ∨ wtF T x ≤ wtF T (gnn Y r)) ∧
        SRw W T g n (A ++ ([x] ++ (Y ++ B))) w' ∧ Mod (fun k => k = g) w1 w') Y.length
      (fun env' w' => env' 1 = .int .i64 a ∧ env' 4 = .pointer (some ⟨q, 0, none⟩) ∧ ∃ s, s ≤ Y.length ∧ env' 8 = .int .i64 (m + s : Nat) ∧ mrg (wtF T) [x] Y = Y.take s ++ x :: Y.drop s ∧ SRw W T g n (A ++ ([x] ++ (Y ++ B))) w' ∧ Mod (fun k => k = g) w1 w') ?_ ?_ ?_
    · exact ⟨by simp, by simp, 0, Y.length, by omega, by omega, by omega, by simp, by simp; rw [hb, hm]; simp, .inl rfl, .inl rfl, by simpa using H1, Mod.refl _ _⟩
    · rintro z env w2 ⟨e1, e4, s, r, rfl, hsr, hrY, e8, e9, ps, pr, H, MM⟩
      obtain ⟨D0, D2⟩ := D1.mod MM hne
      simp [e8, e9, -Int.natCast_add]
      by_cases hlt : s < r
      · have hw := half_w (i := m + s) (j := m + r) (by omega)
        obtain ⟨u, hu⟩ : ∃ u, (m + s + (m + r)) / 2 = m + u := ⟨(m + s + (m + r)) / 2 - m, by omega⟩
        rw [hu] at hw
        have wh : IntKind.i64.wrap (((m + u : Nat) : Int) + 1) = ((m + (u + 1) : Nat) : Int) := by rw [wI (by omega) (by omega)]; omega
        refine ite_r (t := true) (by simp; omega) (fun _ => ?_) (fun h => by cases h)
        simp [wp_blk, e1, e4, e8, e9, D0, D2, hw, -Int.natCast_add]
        refine less_r C H (m + u) a (by omega) (by omega) (by simp) (by simp [-Int.natCast_add]) (by simp [e1]) ?_
        intro w3 H3 M3
        rw [gx, gy u (by omega), ltW_iff]
        have MM3 := MM.tr (M3.mono fun _ _ h => h.elim)
        by_cases hl : wtF T (gnn Y u) < wtF T x
        · refine ite_r (t := true) (by simp; exact hl) (fun _ => ?_) (fun h => by cases h)
          simp [wh, -Int.natCast_add]
          exact ⟨r - (u + 1), by omega, by simp [e1], by simp [e4], u + 1, r, rfl, by omega, hrY, by simp [-Int.natCast_add], by simp [e9, -Int.natCast_add], .inr (by simpa using hl), pr, H3, MM3⟩
        · refine ite_r (t := false) (by simp; exact Int.not_lt.1 hl) (fun h => by cases h) (fun _ => ?_)
          simp [-Int.natCast_add]
          exact ⟨u - s, by omega, by simp [e1], by simp [e4], s, u, rfl, by omega, by omega, by simp [e8, -Int.natCast_add], by simp [-Int.natCast_add], ps, .inr (by omega), H3, MM3⟩
      · refine ite_r (t := false) (by simp; omega) (fun h => by cases h) (fun _ => ?_)
        obtain rfl : s = r := by omega
        simp [e1, e4, -Int.natCast_add]
        exact ⟨s, hrY, by simp [e8, -Int.natCast_add], mrg_one_l hY ps pr hrY, H, MM⟩
    · rintro env w2 ⟨e1, e4, s, hsY, e8, hmr, H, MM⟩
      rw [hmr]
      have wk1 : IntKind.i64.wrap (((m + s : Nat) : Int) - 1) = ((a + s : Nat) : Int) := by rw [wI (by omega) (by omega)]; simp at hm; omega
      simp [e1]
      refine loop_r (fun z env' w' => env' 4 = .pointer (some ⟨q, 0, none⟩) ∧ env' 8 = .int .i64 (m + s : Nat) ∧ ∃ P R, z = R.length ∧ Y.take s = P ++ R ∧ env' 11 = .int .i64 (a + P.length : Nat) ∧ SRw W T g n (A ++ (P ++ (x :: (R ++ (Y.drop s ++ B))))) w' ∧ Mod (fun k => k = g) w1 w') s ?_ ?_
      · refine ⟨by simp [e4], by simp [e8, -Int.natCast_add], [], Y.take s, by simp; omega, rfl, by simp, ?_, MM⟩
        rw [List.nil_append, ← List.append_assoc (Y.take s), List.take_append_drop]
        exact H
      · rintro z env w3 ⟨e4, e8, P, R, rfl, hPR, e11, H, MM⟩
        obtain ⟨D0, D2⟩ := D1.mod MM hne
        have hs : s = P.length + R.length := by
          have := congrArg List.length hPR
          rw [List.length_take, List.length_append] at this
          omega
        rw [List.length_singleton] at hm hlen
        have wp : IntKind.i64.wrap (((a + P.length : Nat) : Int) + 1) = ((a + (P.length + 1) : Nat) : Int) := by rw [wI (by omega) (by omega)]; omega
        simp [e8, e11, wk1, -Int.natCast_add]
        rcases R with _ | ⟨y, R⟩
        · rw [List.length_nil] at hs
          refine ite_r (t := false) (by simp; omega) (fun h => by cases h) (fun _ => ?_)
          simp
          refine ⟨?_, (M1.mono fun _ _ h => h.elim).tr MM⟩
          rw [hPR]
          simpa using H
        · rw [List.length_cons] at hs
          refine ite_r (t := true) (by simp; omega) (fun _ => ?_) (fun h => by cases h)
          simp [wp_blk, e4, e11, D2, wp, -Int.natCast_add]
          refine swap_r C H (a + P.length) (a + (P.length + 1)) (by omega) (by omega) (by simp) (by simp [e11, -Int.natCast_add]) (by simp [e11, wp, -Int.natCast_add]) ?_
          intro w4 H4 M4
          have hsw := (swapL_app (A ++ P) x [] y (R ++ (Y.drop s ++ B))).1
          rw [List.length_append, List.length_nil, ← ha, show a + P.length + 1 + 0 = a + (P.length + 1) by omega] at hsw
          rw [show A ++ (P ++ (x :: (y :: R ++ (Y.drop s ++ B)))) = A ++ P ++ x :: ([] ++ y :: (R ++ (Y.drop s ++ B))) by simp, hsw] at H4
          simp [e11, wp, -Int.natCast_add]
          exact ⟨R.length, by omega, by simp [e4], by simp [e8, -Int.natCast_add], P ++ [y], R, rfl, by simpa using hPR, by simp [-Int.natCast_add], by simpa using H4, MM.tr M4⟩
  refine ite_r (t := false) (by simp; omega) (fun h => by cases h) (fun _ => ?_)
  simp [wbm]
  by_cases hy1 : Y.length = 1
  · obtain ⟨y, rfl⟩ : ∃ x, Y = [x] := List.length_eq_one_iff.1 hy1
    refine ite_r (t := true) (by simp) (fun _ => ?_) (fun h => by cases h)
    simp
    have gy : gnn (A ++ (X ++ ([y] ++ B))) m = y := by
      have := gnn_app (A ++ X) y B
      rw [List.length_append, ← hm] at this
      simpa using this
    have gx : ∀ t, t < X.length → gnn (A ++ (X ++ ([y] ++ B))) (a + t) = gnn X t := fun t ht => by
      rw [ha]; exact gnn_in A X ([y] ++ B) ht
    refine loop_w (fun z env' w' => env' 2 = .int .i64 m ∧ env' 4 = .pointer (some ⟨q, 0, none⟩) ∧ ∃ s r, z = r - s ∧ s ≤ r ∧ r ≤ X.length ∧ env' 12 = .int .i64 (a + s : Nat) ∧ env' 13 = .int .i64 (a + r : Nat) ∧ (s = 0 ∨ wtF T (gnn X (s - 1)) ≤ wtF T y) ∧ (r = X.length ∨ wtF T y < wtF T (gnn X r)) ∧
        SRw W T g n (A ++ (X ++ ([y] ++ B))) w' ∧ Mod (fun k => k = g) w1 w') X.length
      (fun env' w' => env' 2 = .int .i64 m ∧ env' 4 = .pointer (some ⟨q, 0, none⟩) ∧ ∃ s, s ≤ X.length ∧ env' 12 = .int .i64 (a + s : Nat) ∧ mrg (wtF T) X [y] = X.take s ++ y :: X.drop s ∧ SRw W T g n (A ++ (X ++ ([y] ++ B))) w' ∧ Mod (fun k => k = g) w1 w') ?_ ?_ ?_
    · exact ⟨by simp, by simp, 0, X.length, by omega, by omega, by omega, by simp, by simp; rw [hm, ha]; simp, .inl rfl, .inl rfl, by simpa using H1, Mod.refl _ _⟩
    · rintro z env w2 ⟨e2, e4, s, r, rfl, hsr, hrY, e8, e9, ps, pr, H, MM⟩
      obtain ⟨D0, D2⟩ := D1.mod MM hne
      simp [e8, e9, -Int.natCast_add]
      by_cases hlt : s < r
      · have hw := half_w (i := a + s) (j := a + r) (by omega)
        obtain ⟨u, hu⟩ : ∃ u, (a + s + (a + r)) / 2 = a + u := ⟨(a + s + (a + r)) / 2 - a, by omega⟩
        rw [hu] at hw
        have wh : IntKind.i64.wrap (((a + u : Nat) : Int) + 1) = ((a + (u + 1) : Nat) : Int) := by rw [wI (by omega) (by omega)]; omega
        refine ite_r (t := true) (by simp; omega) (fun _ => ?_) (fun h => by cases h)
        simp [wp_blk, e2, e4, e8, e9, D0, D2, hw, -Int.natCast_add]
        refine less_r C H m (a + u) (by simp at hlen; omega) (by omega) (by simp) (by simp [e2]) (by simp [-Int.natCast_add]) ?_
        intro w3 H3 M3
        rw [gy, gx u (by omega), ltW_iff]
        have MM3 := MM.tr (M3.mono fun _ _ h => h.elim)
        by_cases hl : wtF T y < wtF T (gnn X u)
        · have hl' : (ndG T y).wt < (ndG T (gnn X u)).wt := hl
          simp [hl', -Int.natCast_add]
          refine ite_r (t := false) (by simp) (fun h => by cases h) (fun _ => ?_)
          simp [-Int.natCast_add]
          exact ⟨u - s, by omega, by simp [e2], by simp [e4], s, u, rfl, by omega, by omega, by simp [e8, -Int.natCast_add], by simp [-Int.natCast_add], ps, .inr hl, H3, MM3⟩
        · have hl' : ¬ (ndG T y).wt < (ndG T (gnn X u)).wt := hl
          simp [hl', -Int.natCast_add]
          refine ite_r (t := true) (by simp) (fun _ => ?_) (fun h => by cases h)
          simp [wh, -Int.natCast_add]
          exact ⟨r - (u + 1), by omega, by simp [e2], by simp [e4], u + 1, r, rfl, by omega, hrY, by simp [-Int.natCast_add], by simp [e9, -Int.natCast_add], .inr (by simpa using Int.not_lt.1 hl), pr, H3, MM3⟩
      · refine ite_r (t := false) (by simp; omega) (fun h => by cases h) (fun _ => ?_)
        obtain rfl : s = r := by omega
        simp [e2, e4, -Int.natCast_add]
        exact ⟨s, hrY, by simp [e8, -Int.natCast_add], mrg_one_r hX ps pr hrY, H, MM⟩
    · rintro env w2 ⟨e2, e4, s, hsY, e8, hmr, H, MM⟩
      rw [hmr]
      simp [e2]
      refine loop_r (fun z env' w' => env' 4 = .pointer (some ⟨q, 0, none⟩) ∧ env' 12 = .int .i64 (a + s : Nat) ∧ ∃ P R, z = P.length ∧ X.drop s = P ++ R ∧ env' 15 = .int .i64 (a + (s + P.length) : Nat) ∧ SRw W T g n (A ++ (X.take s ++ (P ++ (y :: (R ++ B))))) w' ∧ Mod (fun k => k = g) w1 w') (X.length - s) ?_ ?_
      · refine ⟨by simp [e4], by simp [e8, -Int.natCast_add], X.drop s, [], by simp, by simp, ?_, ?_, MM⟩
        · rw [List.length_drop, show a + (s + (X.length - s)) = m by omega]; simp
        · rw [List.nil_append, ← List.append_assoc (X.take s), List.take_append_drop]
          exact H
      · rintro z env w3 ⟨e4, e12, P, R, rfl, hPR, e15, H, MM⟩
        obtain ⟨D0, D2⟩ := D1.mod MM hne
        have hs : X.length = s + (P.length + R.length) := by
          have := congrArg List.length hPR
          rw [List.length_drop, List.length_append] at this
          omega
        simp at hlen
        simp [e12, e15, -Int.natCast_add]
        rcases List.eq_nil_or_concat P with rfl | ⟨P, x, rfl⟩
        · refine ite_r (t := false) (by simp) (fun h => by cases h) (fun _ => ?_)
          simp
          refine ⟨?_, (M1.mono fun _ _ h => h.elim).tr MM⟩
          rw [hPR]
          simpa using H
        · rw [List.concat_eq_append] at *
          rw [List.length_append, List.length_singleton] at hs e15
          have wp : IntKind.i64.wrap (((a + (s + (P.length + 1)) : Nat) : Int) - 1) = ((a + (s + P.length) : Nat) : Int) := by rw [wI (by omega) (by omega)]; omega
          refine ite_r (t := true) (by simp <;> omega) (fun _ => ?_) (fun h => by cases h)
          simp [wp_blk, e4, e15, D2, wp, -Int.natCast_add]
          refine swap_r C H (a + (s + (P.length + 1))) (a + (s + P.length)) (by omega) (by omega) (by simp) (by simp [e15, -Int.natCast_add]) (by simp [e15, wp, -Int.natCast_add]) ?_
          intro w4 H4 M4
          have hsw := (swapL_app (A ++ (X.take s ++ P)) x [] y (R ++ B)).2
          rw [List.length_append, List.length_append, List.length_take, List.length_nil, ← ha, show min s X.length = s by omega, show a + (s + P.length) + 1 + 0 = a + (s + (P.length + 1)) by omega] at hsw
          rw [show A ++ (X.take s ++ (P ++ [x] ++ (y :: (R ++ B)))) = A ++ (X.take s ++ P) ++ x :: ([] ++ y :: (R ++ B)) by simp, hsw] at H4
          simp [e15, wp, -Int.natCast_add]
          exact ⟨P.length, by simp, by simp [e4], by simp [e12, -Int.natCast_add], P, rfl, x :: R, by simpa using hPR, by simp [-Int.natCast_add], by simpa using H4, MM.tr M4⟩
  refine ite_r (t := false) (by simp; omega) (fun h => by cases h) (fun _ => ?_)
  -- both parts longer than one
  obtain ⟨h, hhh⟩ : ∃ h, h = (X.length + Y.length) / 2 := ⟨_, rfl⟩
  have hmid := half_w (i := a) (j := b) (by omega)
  rw [show (a + b) / 2 = a + h by omega] at hmid
  have hwn : IntKind.i64.wrap (((a + h : Nat) : Int) + m) = ((a + h + m : Nat) : Int) := by rw [wI (by omega) (by omega)]; omega
  have hwp : IntKind.i64.wrap (((a + h + m : Nat) : Int) - 1) = ((a + h + m - 1 : Nat) : Int) := by rw [wI (by omega) (by omega)]; omega
  simp [hmid, hwn, hwp, -Int.natCast_add]
  have gX : ∀ t, t < X.length → gnn (A ++ (X ++ (Y ++ B))) (a + t) = gnn X t := fun t ht => by
    rw [ha]; exact gnn_in A X (Y ++ B) ht
  have gY : ∀ t, t < Y.length → gnn (A ++ (X ++ (Y ++ B))) (m + t) = gnn Y t := fun t ht => by
    have := gnn_in (A ++ X) Y B ht
    rw [List.length_append, ← hm] at this
    simpa using this
  obtain ⟨s0, hs0⟩ : ∃ s0, s0 = if h < X.length then h - Y.length else 0 := ⟨_, rfl⟩
  obtain ⟨t0, ht0⟩ : ∃ t0, t0 = if h < X.length then h else X.length := ⟨_, rfl⟩
  have hst : s0 ≤ t0 := by split at hs0 <;> split at ht0 <;> omega
  have ht0h : t0 ≤ h := by split at ht0 <;> omega
  have ht0X : t0 ≤ X.length := by split at ht0 <;> omega
  have hs0Y : h ≤ Y.length + s0 := by split at hs0 <;> omega
  refine ite_cut (t := decide (h < X.length)) (fun env' w' => w' = w1 ∧ env' 1 = .int .i64 a ∧ env' 2 = .int .i64 m ∧ env' 3 = .int .i64 b ∧ env' 4 = .pointer (some ⟨q, 0, none⟩) ∧ env' 16 = .int .i64 (a + h : Nat) ∧ env' 17 = .int .i64 (a + h + m : Nat) ∧ env' 18 = .int .i64 (a + s0 : Nat) ∧ env' 19 = .int .i64 (a + t0 : Nat)) ?_ ?_ ?_ ?_
  · simp; omega
  · intro hc
    have hc : h < X.length := by simpa using hc
    rw [if_pos hc] at hs0 ht0
    have hw : IntKind.i64.wrap (((a + h + m : Nat) : Int) - b) = ((a + s0 : Nat) : Int) := by rw [wI (by omega) (by omega)]; omega
    simp [hw, -Int.natCast_add]
    rw [ht0]
  · intro hc
    have hc : ¬ h < X.length := by simpa using hc
    rw [if_neg hc] at hs0 ht0
    simp [-Int.natCast_add]
    exact ⟨by rw [hs0]; rfl, by rw [ht0, ha, ← hm]⟩
  · rintro env w2 ⟨rfl, e1, e2, e3, e4, e16, e17, e18, e19⟩
    simp [e17, hwp, -Int.natCast_add]
    refine loop_w (fun z env' w' => env' 1 = .int .i64 a ∧ env' 2 = .int .i64 m ∧ env' 3 = .int .i64 b ∧ env' 4 = .pointer (some ⟨q, 0, none⟩) ∧ env' 16 = .int .i64 (a + h : Nat) ∧ env' 17 = .int .i64 (a + h + m : Nat) ∧ env' 20 = .int .i64 (a + h + m - 1 : Nat) ∧
        ∃ s t, z = t - s ∧ s0 ≤ s ∧ s ≤ t ∧ t ≤ t0 ∧ env' 18 = .int .i64 (a + s : Nat) ∧ env' 19 = .int .i64 (a + t : Nat) ∧ (s = s0 ∨ wtF T (gnn X (s - 1)) ≤ wtF T (gnn Y (h - s))) ∧ (t = t0 ∨ wtF T (gnn Y (h - 1 - t)) < wtF T (gnn X t)) ∧
        SRw W T g n (A ++ (X ++ (Y ++ B))) w' ∧ Mod (fun k => k = g) w2 w') (t0 - s0)
      (fun env' w' => env' 1 = .int .i64 a ∧ env' 2 = .int .i64 m ∧ env' 3 = .int .i64 b ∧ env' 4 = .pointer (some ⟨q, 0, none⟩) ∧ env' 16 = .int .i64 (a + h : Nat) ∧ env' 17 = .int .i64 (a + h + m : Nat) ∧ ∃ s, s0 ≤ s ∧ s ≤ t0 ∧ env' 18 = .int .i64 (a + s : Nat) ∧
        mrg (wtF T) X Y = mrg (wtF T) (X.take s) (Y.take (h - s)) ++ mrg (wtF T) (X.drop s) (Y.drop (h - s)) ∧ SRw W T g n (A ++ (X ++ (Y ++ B))) w' ∧ Mod (fun k => k = g) w2 w') ?_ ?_ ?_
    · exact ⟨by simp [e1], by simp [e2], by simp [e3], by simp [e4], by simp [e16, -Int.natCast_add], by simp [e17, -Int.natCast_add], by simp [-Int.natCast_add], s0, t0, rfl, Nat.le_refl _, hst, Nat.le_refl _, by simp [e18, -Int.natCast_add], by simp [e19, -Int.natCast_add], .inl rfl, .inl rfl, H1, Mod.refl _ _⟩
    · rintro z env w3 ⟨e1, e2, e3, e4, e16, e17, e20, s, t, rfl, hs, hstt, htt, e18, e19, ps, pt, H, MM⟩
      obtain ⟨D0, D2⟩ := D1.mod MM hne
      simp [e18, e19, -Int.natCast_add]
      by_cases hlt : s < t
      · have hw := half_w (i := a + s) (j := a + t) (by omega)
        obtain ⟨u, hu⟩ : ∃ u, (a + s + (a + t)) / 2 = a + u := ⟨(a + s + (a + t)) / 2 - a, by omega⟩
        rw [hu] at hw
        have hus : s ≤ u := by omega
        have hut : u < t := by omega
        have wh : IntKind.i64.wrap (((a + u : Nat) : Int) + 1) = ((a + (u + 1) : Nat) : Int) := by rw [wI (by omega) (by omega)]; omega
        have wpc : IntKind.i64.wrap (((a + h + m - 1 : Nat) : Int) - ((a + u : Nat) : Int)) = ((m + (h - 1 - u) : Nat) : Int) := by rw [wI (by omega) (by omega)]; omega
        refine ite_r (t := true) (by simp; omega) (fun _ => ?_) (fun h => by cases h)
        simp [wp_blk, e4, e18, e19, e20, D0, D2, hw, wpc, -Int.natCast_add]
        refine less_r C H (m + (h - 1 - u)) (a + u) (by omega) (by omega) (by simp) (by simp [e20, wpc, -Int.natCast_add]) (by simp [-Int.natCast_add]) ?_
        intro w4 H4 M4
        rw [gX u (by omega), gY (h - 1 - u) (by omega), ltW_iff]
        have MM4 := MM.tr (M4.mono fun _ _ h => h.elim)
        by_cases hl : wtF T (gnn Y (h - 1 - u)) < wtF T (gnn X u)
        · have hl' : (ndG T (gnn Y (h - 1 - u))).wt < (ndG T (gnn X u)).wt := hl
          simp [hl', -Int.natCast_add]
          refine ite_r (t := false) (by simp) (fun h => by cases h) (fun _ => ?_)
          simp [-Int.natCast_add]
          exact ⟨u - s, by omega, by simp [e1], by simp [e2], by simp [e3], by simp [e4], by simp [e16, -Int.natCast_add], by simp [e17, -Int.natCast_add], by simp [e20, -Int.natCast_add], s, u, rfl, hs, by omega, by omega, by simp [e18, -Int.natCast_add], by simp [-Int.natCast_add], ps, .inr hl, H4, MM4⟩
        · have hl' : ¬ (ndG T (gnn Y (h - 1 - u))).wt < (ndG T (gnn X u)).wt := hl
          simp [hl', -Int.natCast_add]
          refine ite_r (t := true) (by simp) (fun _ => ?_) (fun h => by cases h)
          simp [wh, -Int.natCast_add]
          exact ⟨t - (u + 1), by omega, by simp [e1], by simp [e2], by simp [e3], by simp [e4], by simp [e16, -Int.natCast_add], by simp [e17, -Int.natCast_add], by simp [e20, -Int.natCast_add], u + 1, t, rfl, by omega, by omega, htt, by simp [-Int.natCast_add], by simp [e19, -Int.natCast_add], .inr (by rw [show h - (u + 1) = h - 1 - u by omega]; simpa using Int.not_lt.1 hl), pt, H4, MM4⟩
      · refine ite_r (t := false) (by simp; omega) (fun h => by cases h) (fun _ => ?_)
        obtain rfl : s = t := by omega
        simp [e1, e2, e3, e4, e16, e17, -Int.natCast_add]
        exact ⟨s, hs, htt, by simp [e18, -Int.natCast_add], mrg_cut hX hY hhh hs0 ht0 hs htt ps pt, H, MM⟩
    · rintro env w3 ⟨e1, e2, e3, e4, e16, e17, s, hs, hst0, e18, hcut, H, MM⟩
      rw [hcut]
      have lX1 : (X.take s).length = s := by rw [List.length_take]; omega
      have lX2 : (X.drop s).length = X.length - s := List.length_drop
      have lY1 : (Y.take (h - s)).length = h - s := by rw [List.length_take]; omega
      have lY2 : (Y.drop (h - s)).length = Y.length - (h - s) := List.length_drop
      have aX1 := asc_take hX s
      have aX2 := asc_drop hX s
      have aY1 := asc_take hY (h - s)
      have aY2 := asc_drop hY (h - s)
      have H : SRw W T g n (A ++ (X.take s ++ (X.drop s ++ (Y.take (h - s) ++ (Y.drop (h - s) ++ B))))) w3 := by
        rw [← List.append_assoc (Y.take _), List.take_append_drop, ← List.append_assoc (X.take s), List.take_append_drop]; exact H
      generalize X.take s = X1 at *
      generalize X.drop s = X2 at *
      generalize Y.take (h - s) = Y1 at *
      generalize Y.drop (h - s) = Y2 at *
      have we : IntKind.i64.wrap (((a + h + m : Nat) : Int) - ((a + s : Nat) : Int)) = ((m + (h - s) : Nat) : Int) := by rw [wI (by omega) (by omega)]; omega
      simp [e2, e17, e18, we, -Int.natCast_add]
      refine ite_cut (t := decide (0 < X2.length ∧ 0 < Y1.length)) (fun env' w' => env' 1 = .int .i64 a ∧ env' 3 = .int .i64 b ∧ env' 4 = .pointer (some ⟨q, 0, none⟩) ∧ env' 16 = .int .i64 (a + h : Nat) ∧ env' 18 = .int .i64 (a + s : Nat) ∧ env' 22 = .int .i64 (m + (h - s) : Nat) ∧
        SRw W T g n (A ++ (X1 ++ (Y1 ++ (X2 ++ (Y2 ++ B))))) w' ∧ Mod (fun k => k = g) w2 w') ?_ ?_ ?_ ?_
      · simp; congr 1 <;> (rw [decide_eq_decide]; omega)
      · intro hc
        have hc : 0 < X2.length ∧ 0 < Y1.length := by simpa using hc
        obtain ⟨DA, DB⟩ := (D1.mod MM hne).ld
        simp [e2, e4, e18, DB, -Int.natCast_add]
        refine ⟨DA, ?_⟩
        refine call_h (rotate_c C (A := A ++ X1) (U := X2) (V := Y1) (B := Y2 ++ B) (by simpa using H) hc.1 hc.2 (a := a + s) (m := m) (b := m + (h - s)) (by simp; omega) (by simp; omega) (by simp; omega)) (by simp [e2, e18, dat, -Int.natCast_add]) ?_
        rintro r w4 ⟨rfl, H4, M4⟩
        simp [-Int.natCast_add]
        exact ⟨by simp [e1], by simp [e3], by simp [e4], by simp [e16, -Int.natCast_add], by simp [e18, -Int.natCast_add], by simpa using H4, MM.tr M4⟩
      · intro hc
        have hc : ¬ (0 < X2.length ∧ 0 < Y1.length) := by simpa using hc
        simp [-Int.natCast_add]
        refine ⟨by simp [e1], by simp [e3], by simp [e4], by simp [e16, -Int.natCast_add], by simp [e18, -Int.natCast_add], ?_, MM⟩
        rcases Nat.eq_zero_or_pos X2.length with h0 | h0
        · obtain rfl := List.length_eq_zero_iff.1 h0
          simpa using H
        · obtain rfl := List.length_eq_zero_iff.1 (show Y1.length = 0 by omega)
          simpa using H
      · rintro env w4 ⟨e1, e3, e4, e16, e18, e22, H, MM⟩
        simp [e1, e16, e18, -Int.natCast_add]
        refine ite_cut (t := decide (0 < X1.length ∧ 0 < Y1.length)) (fun env' w' => env' 3 = .int .i64 b ∧ env' 4 = .pointer (some ⟨q, 0, none⟩) ∧ env' 16 = .int .i64 (a + h : Nat) ∧ env' 22 = .int .i64 (m + (h - s) : Nat) ∧
          SRw W T g n (A ++ (mrg (wtF T) X1 Y1 ++ (X2 ++ (Y2 ++ B)))) w' ∧ Mod (fun k => k = g) w2 w') ?_ ?_ ?_ ?_
        · simp; congr 1 <;> (rw [decide_eq_decide]; omega)
        · intro hc
          have hc : 0 < X1.length ∧ 0 < Y1.length := by simpa using hc
          obtain ⟨DA, DB⟩ := (D1.mod MM hne).ld
          simp [e1, e4, e16, e18, DB, -Int.natCast_add]
          refine ⟨DA, ?_⟩
          refine call_h (ih (A := A) (X := X1) (Y := Y1) (B := X2 ++ (Y2 ++ B)) (by omega) hc.1 hc.2 aX1 aY1 H (a := a) (m := a + s) (b := a + h) ha (by omega) (by omega)) (by simp [e1, e16, e18, dat, -Int.natCast_add]) ?_
          rintro r w5 ⟨rfl, H5, M5⟩
          simp [-Int.natCast_add]
          exact ⟨by simp [e3], by simp [e4], by simp [e16, -Int.natCast_add], by simp [e22, -Int.natCast_add], H5, MM.tr M5⟩
        · intro hc
          have hc : ¬ (0 < X1.length ∧ 0 < Y1.length) := by simpa using hc
          simp [-Int.natCast_add]
          refine ⟨by simp [e3], by simp [e4], by simp [e16, -Int.natCast_add], by simp [e22, -Int.natCast_add], ?_, MM⟩
          rcases Nat.eq_zero_or_pos X1.length with h0 | h0
          · obtain rfl := List.length_eq_zero_iff.1 h0
            rw [mrg_nil']; exact H
          · obtain rfl := List.length_eq_zero_iff.1 (show Y1.length = 0 by omega)
            rw [mrg_nil]; exact H
        · rintro env w5 ⟨e3, e4, e16, e22, H, MM⟩
          have lm : (mrg (wtF T) X1 Y1).length = h := by rw [mrg_len _ _ _ _ rfl]; omega
          simp [e3, e16, e22, -Int.natCast_add]
          refine ite_cut (t := decide (0 < X2.length ∧ 0 < Y2.length)) (fun env' w' => SRw W T g n (A ++ (mrg (wtF T) X1 Y1 ++ (mrg (wtF T) X2 Y2 ++ B))) w' ∧ Mod (fun k => k = g) w2 w') ?_ ?_ ?_ ?_
          · simp; congr 1 <;> (rw [decide_eq_decide]; omega)
          · intro hc
            have hc : 0 < X2.length ∧ 0 < Y2.length := by simpa using hc
            obtain ⟨DA, DB⟩ := (D1.mod MM hne).ld
            simp [e3, e4, e16, e22, DB, -Int.natCast_add]
            refine ⟨DA, ?_⟩
            refine call_h (ih (A := A ++ mrg (wtF T) X1 Y1) (X := X2) (Y := Y2) (B := B) (by omega) hc.1 hc.2 aX2 aY2 (by simpa using H) (a := a + h) (m := m + (h - s)) (b := b) (by simp; omega) (by simp; omega) (by simp; omega)) (by simp [e3, e16, e22, dat, -Int.natCast_add]) ?_
            rintro r w6 ⟨rfl, H6, M6⟩
            simp
            exact ⟨by simpa using H6, MM.tr M6⟩
          · intro hc
            have hc : ¬ (0 < X2.length ∧ 0 < Y2.length) := by simpa using hc
            simp
            refine ⟨?_, MM⟩
            rcases Nat.eq_zero_or_pos X2.length with h0 | h0
            · obtain rfl := List.length_eq_zero_iff.1 h0
              rw [mrg_nil']; exact H
            · obtain rfl := List.length_eq_zero_iff.1 (show Y2.length = 0 by omega)
              rw [mrg_nil]; simpa using H
          · rintro env w6 ⟨H, MM⟩
            simp
            exact ⟨by simpa using H, (M1.mono fun _ _ h => h.elim).tr MM⟩
theorem symM_c (C : SC W T lb sb sf g n) : ∀ F, SymH W T lb sb sf g n F
  | 0 => fun hF hX0 => by omega
  | F + 1 => symM_step C F (symM_c C F)
end

end Go.Proofs.Ytgjnfajdejkkjaa.VG
