/-
  The library's stable sort: two sorted parts merged in place (and what goes with it: parts We Wf Wg).
-/
import Derived.Test.YtgjnfajdejkkjaaWd

/-! ## The library's stable sort: two sorted parts merged in place. -/
namespace Go.Proofs.Ytgjnfajdejkkjaa.VG
open Go
set_option linter.unusedSimpArgs false
set_option linter.unusedVariables false
set_option maxRecDepth 20000

theorem half_w {i j : Nat} (h : i + j < 4611686018427387904) : IntKind.i64.wrap (shr .u64 (IntKind.u64.wrap (IntKind.i64.wrap ((i : Int) + j))) 1) = (((i + j) / 2 : Nat) : Int) := by
  have e1 : IntKind.i64.wrap ((i : Int) + j) = ((i + j : Nat) : Int) := by rw [wI (by omega) (by omega)]; omega
  have e2 : IntKind.u64.wrap ((i + j : Nat) : Int) = ((i + j : Nat) : Int) := wU (by omega) (by omega)
  have e3 : shr .u64 ((i + j : Nat) : Int) ((1 : Nat) : Int) = (((i + j) / 2 ^ 1 : Nat) : Int) := shr_nat _ _ _ (by simp only [IntKind.bits]; omega)
  rw [e1, e2, show (1 : Int) = ((1 : Nat) : Int) from rfl, e3, Nat.pow_one]
  exact wI (by omega) (by omega)
theorem ltW_iff (T : List Nd) (x y : Nat) : ltW T x y = decide ((ndG T x).wt < (ndG T y).wt) := rfl

/-- Where the two parts are cut. -/
theorem mrg_cut {f : Nat → Int} {X Y : List Nat} {s h s0 t0 : Nat} (hX : Asc f X) (hY : Asc f Y) (hh : h = (X.length + Y.length) / 2) (h0 : s0 = if h < X.length then h - Y.length else 0) (ht : t0 = if h < X.length then h else X.length) (h1 : s0 ≤ s) (h2 : s ≤ t0)
    (a : s = s0 ∨ f (gnn X (s - 1)) ≤ f (gnn Y (h - s))) (b : s = t0 ∨ f (gnn Y (h - 1 - s)) < f (gnn X s)) : mrg f X Y = mrg f (X.take s) (Y.take (h - s)) ++ mrg f (X.drop s) (Y.drop (h - s)) := by
  have := mrg_split f (X.drop s) (Y.drop (h - s)) _ (X.take s) (Y.take (h - s)) rfl (fun x hx y hy => by
    obtain ⟨i, i1, i2, rfl⟩ := take_ix hx
    obtain ⟨j, j1, j2, rfl⟩ := drop_ix hy
    have e1 := asc_ix hX (i := i) (j := s - 1) (by omega) (by split at ht <;> omega)
    have e2 := asc_ix hY j1 j2
    rcases a with a | a
    · split at h0 <;> omega
    · omega) (fun y hy x hx => by
    obtain ⟨i, i1, i2, rfl⟩ := take_ix hy
    obtain ⟨j, j1, j2, rfl⟩ := drop_ix hx
    have e1 := asc_ix hX j1 j2
    have e2 := asc_ix hY (i := i) (j := h - 1 - s) (by omega) (by split at h0 <;> omega)
    rcases b with b | b
    · split at ht <;> omega
    · omega)
  rwa [List.take_append_drop, List.take_append_drop] at this

section
variable {W : World} {T : List Nd} {lb sb : Array Value} {sf g n : Nat}

def wtF (T : List Nd) (x : Nat) : Int := (ndG T x).wt

def SymH (W : World) (T : List Nd) (lb sb : Array Value) (sf g n F : Nat) : Prop := ∀ {w : World} {A X Y B : List Nat}, X.length + Y.length ≤ F → 0 < X.length → 0 < Y.length → Asc (wtF T) X → Asc (wtF T) Y → SRw W T g n (A ++ (X ++ (Y ++ B))) w → ∀ {a m b : Nat}, a = A.length → m = A.length + X.length → b = A.length + X.length + Y.length →
  Calls Try.prog 69 [dat lb sb sf, .int .i64 a, .int .i64 m, .int .i64 b].toArray w (Ret fun r w' => r = .tuple #[] ∧ SRw W T g n (A ++ (mrg (wtF T) X Y ++ B)) w' ∧ Mod (fun k => k = g) w w')

set_option maxHeartbeats 8000000 in
theorem symM_step (C : SC W T lb sb sf g n) (F : Nat) (ih : SymH W T lb sb sf g n F) : SymH W T lb sb sf g n (F + 1) := by
  intro w A X Y B hF hX0 hY0 hX hY H a m b ha hm hb
  refine F_sound c69 (by simp [fc69]) ?_
  have hlen : A.length + (X.length + (Y.length + B.length)) = n := by simpa using H.2
  have hsm := C.small
  have hne : w.heap.size ≠ g := by have := H.ge C; omega
  simp [fc69, s69]
  refine boxW_r (dat lb sb sf) (by simp) ?_
  intro hh M1
  have H1 := H.alloc (.cells (dat lb sb sf).cells 101)
  have D1 := DCell.mk' hh
  generalize w.alloc (.cells (dat lb sb sf).cells 101) = w1 at *
  generalize w.heap.size = q at *
  have wma : IntKind.i64.wrap ((m : Int) - a) = (X.length : Int) := by rw [wI (by omega) (by omega)]; omega
  have wbm : IntKind.i64.wrap ((b : Int) - m) = (Y.length : Int) := by rw [wI (by omega) (by omega)]; omega
  simp [wma, wbm]
  by_cases hx1 : X.length = 1
  · obtain ⟨x, rfl⟩ : ∃ x, X = [x] := List.length_eq_one_iff.1 hx1
    refine ite_r (t := true) (by simp) (fun _ => ?_) (fun h => by cases h)
    simp
    have gx : gnn (A ++ ([x] ++ (Y ++ B))) a = x := by rw [ha]; exact gnn_app A x (Y ++ B)
    have gy : ∀ t, t < Y.length → gnn (A ++ ([x] ++ (Y ++ B))) (m + t) = gnn Y t := fun t ht => by
      have := gnn_in (A ++ [x]) Y B ht
      rw [List.length_append] at this
      rw [hm]
      simpa using this
    refine loop_w (fun z env' w' => env' 1 = .int .i64 a ∧ env' 4 = .pointer (some ⟨q, 0, none⟩) ∧ ∃ s r, z = r - s ∧ s ≤ r ∧ r ≤ Y.length ∧ env' 8 = .int .i64 (m + s : Nat) ∧ env' 9 = .int .i64 (m + r : Nat) ∧ (s = 0 ∨ wtF T (gnn Y (s - 1)) < wtF T x) ∧ (r = Y.length ∨ wtF T x ≤ wtF T (gnn Y r)) ∧
        SRw W T g n (A ++ ([x] ++ (Y ++ B))) w' ∧ Mod (fun k => k = g) w1 w') Y.length
      (fun env' w' => env' 1 = .int .i64 a ∧ env' 4 = .pointer (some ⟨q, 0, none⟩) ∧ ∃ s, s ≤ Y.length ∧ env' 8 = .int .i64 (m + s : Nat) ∧ mrg (wtF T) [x] Y = Y.take s ++ x :: Y.drop s ∧ SRw W T g n (A ++ ([x] ++ (Y ++ B))) w' ∧ Mod (fun k => k = g) w1 w') ?_ ?_ ?_
    · exact ⟨by simp, by simp, 0, Y.length, by omega, by omega, by omega, by simp, by simp; rw [hb, hm]; simp, .inl rfl, .inl rfl, by simpa using H1, Mod.refl _ _⟩
    · rintro z env w2 ⟨e1, e4, s, r, rfl, hsr, hrY, e8, e9, ps, pr, H, MM⟩
      obtain ⟨D0, D2⟩ := D1.mod MM hne
      simp [e8, e9, -Int.natCast_add]
      by_cases hlt : s < r
      · have hw := half_w (i := m + s) (j := m + r) (by omega)
        obtain ⟨u, hu⟩ : ∃ u, (m + s + (m + r)) / 2 = m + u := ⟨(m + s + (m + r)) / 2 - m, by omega⟩
        rw [hu] at hw
        have wh : IntKind.i64.wrap (((m + u : Nat) : Int) + 1) = ((m + (u + 1) : Nat) : Int) := by rw [wI (by omega) (by omega)]; omega
        refine ite_r (t := true) (by simp; omega) (fun _ => ?_) (fun h => by cases h)
        simp [wp_blk, e1, e4, e8, e9, D0, D2, hw, -Int.natCast_add]
        refine less_r C H (m + u) a (by omega) (by omega) (by simp) (by simp [-Int.natCast_add]) (by simp [e1]) ?_
        intro w3 H3 M3
        rw [gx, gy u (by omega), ltW_iff]
        have MM3 := MM.tr (M3.mono fun _ _ h => h.elim)
        by_cases hl : wtF T (gnn Y u) < wtF T x
        · refine ite_r (t := true) (by simp; exact hl) (fun _ => ?_) (fun h => by cases h)
          simp [wh, -Int.natCast_add]
          exact ⟨r - (u + 1), by omega, by simp [e1], by simp [e4], u + 1, r, rfl, by omega, hrY, by simp [-Int.natCast_add], by simp [e9, -Int.natCast_add], .inr (by simpa using hl), pr, H3, MM3⟩
        · refine ite_r (t := false) (by simp; exact Int.not_lt.1 hl) (fun h => by cases h) (fun _ => ?_)
          simp [-Int.natCast_add]
          exact ⟨u - s, by omega, by simp [e1], by simp [e4], s, u, rfl, by omega, by omega, by simp [e8, -Int.natCast_add], by simp [-Int.natCast_add], ps, .inr (by omega), H3, MM3⟩
      · refine ite_r (t := false) (by simp; omega) (fun h => by cases h) (fun _ => ?_)
        obtain rfl : s = r := by omega
        simp [e1, e4, -Int.natCast_add]
        exact ⟨s, hrY, by simp [e8, -Int.natCast_add], mrg_one_l hY ps pr hrY, H, MM⟩
    · rintro env w2 ⟨e1, e4, s, hsY, e8, hmr, H, MM⟩
      rw [hmr]
      have wk1 : IntKind.i64.wrap (((m + s : Nat) : Int) - 1) = ((a + s : Nat) : Int) := by rw [wI (by omega) (by omega)]; simp at hm; omega
      simp [e1]
      refine loop_r (fun z env' w' => env' 4 = .pointer (some ⟨q, 0, none⟩) ∧ env' 8 = .int .i64 (m + s : Nat) ∧ ∃ P R, z = R.length ∧ Y.take s = P ++ R ∧ env' 11 = .int .i64 (a + P.length : Nat) ∧ SRw W T g n (A ++ (P ++ (x :: (R ++ (Y.drop s ++ B))))) w' ∧ Mod (fun k => k = g) w1 w') s ?_ ?_
      · refine ⟨by simp [e4], by simp [e8, -Int.natCast_add], [], Y.take s, by simp; omega, rfl, by simp, ?_, MM⟩
        rw [List.nil_append, ← List.append_assoc (Y.take s), List.take_append_drop]
        exact H
      · rintro z env w3 ⟨e4, e8, P, R, rfl, hPR, e11, H, MM⟩
        obtain ⟨D0, D2⟩ := D1.mod MM hne
        have hs : s = P.length + R.length := by
          have := congrArg List.length hPR
          rw [List.length_take, List.length_append] at this
          omega
        rw [List.length_singleton] at hm hlen
        have wp : IntKind.i64.wrap (((a + P.length : Nat) : Int) + 1) = ((a + (P.length + 1) : Nat) : Int) := by rw [wI (by omega) (by omega)]; omega
        simp [e8, e11, wk1, -Int.natCast_add]
        rcases R with _ | ⟨y, R⟩
        · rw [List.length_nil] at hs
          refine ite_r (t := false) (by simp; omega) (fun h => by cases h) (fun _ => ?_)
          simp
          refine ⟨?_, (M1.mono fun _ _ h => h.elim).tr MM⟩
          rw [hPR]
          simpa using H
        · rw [List.length_cons] at hs
          refine ite_r (t := true) (by simp; omega) (fun _ => ?_) (fun h => by cases h)
          simp [wp_blk, e4, e11, D2, wp, -Int.natCast_add]
          refine swap_r C H (a + P.length) (a + (P.length + 1)) (by omega) (by omega) (by simp) (by simp [e11, -Int.natCast_add]) (by simp [e11, wp, -Int.natCast_add]) ?_
          intro w4 H4 M4
          have hsw := (swapL_app (A ++ P) x [] y (R ++ (Y.drop s ++ B))).1
          rw [List.length_append, List.length_nil, ← ha, show a + P.length + 1 + 0 = a + (P.length + 1) by omega] at hsw
          rw [show A ++ (P ++ (x :: (y :: R ++ (Y.drop s ++ B)))) = A ++ P ++ x :: ([] ++ y :: (R ++ (Y.drop s ++ B))) by simp, hsw] at H4
          simp [e11, wp, -Int.natCast_add]
          exact ⟨R.length, by omega, by simp [e4], by simp [e8, -Int.natCast_add], P ++ [y], R, rfl, by simpa using hPR, by simp [-Int.natCast_add], by simpa using H4, MM.tr M4⟩
  refine ite_r (t := false) (by simp; omega) (fun h => by cases h) (fun _ => ?_)
  simp [wbm]
  by_cases hy1 : Y.length = 1
  · obtain ⟨y, rfl⟩ : ∃ x, Y = [x] := List.length_eq_one_iff.1 hy1
    refine ite_r (t := true) (by simp) (fun _ => ?_) (fun h => by cases h)
    simp
    have gy : gnn (A ++ (X ++ ([y] ++ B))) m = y := by
      have := gnn_app (A ++ X) y B
      rw [List.length_append, ← hm] at this
      simpa using this
    have gx : ∀ t, t < X.length → gnn (A ++ (X ++ ([y] ++ B))) (a + t) = gnn X t := fun t ht => by
      rw [ha]; exact gnn_in A X ([y] ++ B) ht
    refine loop_w (fun z env' w' => env' 2 = .int .i64 m ∧ env' 4 = .pointer (some ⟨q, 0, none⟩) ∧ ∃ s r, z = r - s ∧ s ≤ r ∧ r ≤ X.length ∧ env' 12 = .int .i64 (a + s : Nat) ∧ env' 13 = .int .i64 (a + r : Nat) ∧ (s = 0 ∨ wtF T (gnn X (s - 1)) ≤ wtF T y) ∧ (r = X.length ∨ wtF T y < wtF T (gnn X r)) ∧
        SRw W T g n (A ++ (X ++ ([y] ++ B))) w' ∧ Mod (fun k => k = g) w1 w') X.length
      (fun env' w' => env' 2 = .int .i64 m ∧ env' 4 = .pointer (some ⟨q, 0, none⟩) ∧ ∃ s, s ≤ X.length ∧ env' 12 = .int .i64 (a + s : Nat) ∧ mrg (wtF T) X [y] = X.take s ++ y :: X.drop s ∧ SRw W T g n (A ++ (X ++ ([y] ++ B))) w' ∧ Mod (fun k => k = g) w1 w') ?_ ?_ ?_
    · exact ⟨by simp, by simp, 0, X.length, by omega, by omega, by omega, by simp, by simp; rw [hm, ha]; simp, .inl rfl, .inl rfl, by simpa using H1, Mod.refl _ _⟩
    · rintro z env w2 ⟨e2, e4, s, r, rfl, hsr, hrY, e8, e9, ps, pr, H, MM⟩
      obtain ⟨D0, D2⟩ := D1.mod MM hne
      simp [e8, e9, -Int.natCast_add]
      by_cases hlt : s < r
      · have hw := half_w (i := a + s) (j := a + r) (by omega)
        obtain ⟨u, hu⟩ : ∃ u, (a + s + (a + r)) / 2 = a + u := ⟨(a + s + (a + r)) / 2 - a, by omega⟩
        rw [hu] at hw
        have wh : IntKind.i64.wrap (((a + u : Nat) : Int) + 1) = ((a + (u + 1) : Nat) : Int) := by rw [wI (by omega) (by omega)]; omega
        refine ite_r (t := true) (by simp; omega) (fun _ => ?_) (fun h => by cases h)
        simp [wp_blk, e2, e4, e8, e9, D0, D2, hw, -Int.natCast_add]
        refine less_r C H m (a + u) (by simp at hlen; omega) (by omega) (by simp) (by simp [e2]) (by simp [-Int.natCast_add]) ?_
        intro w3 H3 M3
        rw [gy, gx u (by omega), ltW_iff]
        have MM3 := MM.tr (M3.mono fun _ _ h => h.elim)
        by_cases hl : wtF T y < wtF T (gnn X u)
        · have hl' : (ndG T y).wt < (ndG T (gnn X u)).wt := hl
          simp [hl', -Int.natCast_add]
          refine ite_r (t := false) (by simp) (fun h => by cases h) (fun _ => ?_)
          simp [-Int.natCast_add]
          exact ⟨u - s, by omega, by simp [e2], by simp [e4], s, u, rfl, by omega, by omega, by simp [e8, -Int.natCast_add], by simp [-Int.natCast_add], ps, .inr hl, H3, MM3⟩
        · have hl' : ¬ (ndG T y).wt < (ndG T (gnn X u)).wt := hl
          simp [hl', -Int.natCast_add]
          refine ite_r (t := true) (by simp) (fun _ => ?_) (fun h => by cases h)
          simp [wh, -Int.natCast_add]
          exact ⟨r - (u + 1), by omega, by simp [e2], by simp [e4], u + 1, r, rfl, by omega, hrY, by simp [-Int.natCast_add], by simp [e9, -Int.natCast_add], .inr (by simpa using Int.not_lt.1 hl), pr, H3, MM3⟩
      · refine ite_r (t := false) (by simp; omega) (fun h => by cases h) (fun _ => ?_)
        obtain rfl : s = r := by omega
        simp [e2, e4, -Int.natCast_add]
        exact ⟨s, hrY, by simp [e8, -Int.natCast_add], mrg_one_r hX ps pr hrY, H, MM⟩
    · rintro env w2 ⟨e2, e4, s, hsY, e8, hmr, H, MM⟩
      rw [hmr]
      simp [e2]
      refine loop_r (fun z env' w' => env' 4 = .pointer (some ⟨q, 0, none⟩) ∧ env' 12 = .int .i64 (a + s : Nat) ∧ ∃ P R, z = P.length ∧ X.drop s = P ++ R ∧ env' 15 = .int .i64 (a + (s + P.length) : Nat) ∧ SRw W T g n (A ++ (X.take s ++ (P ++ (y :: (R ++ B))))) w' ∧ Mod (fun k => k = g) w1 w') (X.length - s) ?_ ?_
      · refine ⟨by simp [e4], by simp [e8, -Int.natCast_add], X.drop s, [], by simp, by simp, ?_, ?_, MM⟩
        · rw [List.length_drop, show a + (s + (X.length - s)) = m by omega]; simp
        · rw [List.nil_append, ← List.append_assoc (X.take s), List.take_append_drop]
          exact H
      · rintro z env w3 ⟨e4, e12, P, R, rfl, hPR, e15, H, MM⟩
        obtain ⟨D0, D2⟩ := D1.mod MM hne
        have hs : X.length = s + (P.length + R.length) := by
          have := congrArg List.length hPR
          rw [List.length_drop, List.length_append] at this
          omega
        simp at hlen
        simp [e12, e15, -Int.natCast_add]
        rcases List.eq_nil_or_concat P with rfl | ⟨P, x, rfl⟩
        · refine ite_r (t := false) (by simp) (fun h => by cases h) (fun _ => ?_)
          simp
          refine ⟨?_, (M1.mono fun _ _ h => h.elim).tr MM⟩
          rw [hPR]
          simpa using H
        · rw [List.concat_eq_append] at *
          rw [List.length_append, List.length_singleton] at hs e15
          have wp : IntKind.i64.wrap (((a + (s + (P.length + 1)) : Nat) : Int) - 1) = ((a + (s + P.length) : Nat) : Int) := by rw [wI (by omega) (by omega)]; omega
          refine ite_r (t := true) (by simp <;> omega) (fun _ => ?_) (fun h => by cases h)
          simp [wp_blk, e4, e15, D2, wp, -Int.natCast_add]
          refine swap_r C H (a + (s + (P.length + 1))) (a + (s + P.length)) (by omega) (by omega) (by simp) (by simp [e15, -Int.natCast_add]) (by simp [e15, wp, -Int.natCast_add]) ?_
          intro w4 H4 M4
          have hsw := (swapL_app (A ++ (X.take s ++ P)) x [] y (R ++ B)).2
          rw [List.length_append, List.length_append, List.length_take, List.length_nil, ← ha, show min s X.length = s by omega, show a + (s + P.length) + 1 + 0 = a + (s + (P.length + 1)) by omega] at hsw
          rw [show A ++ (X.take s ++ (P ++ [x] ++ (y :: (R ++ B)))) = A ++ (X.take s ++ P) ++ x :: ([] ++ y :: (R ++ B)) by simp, hsw] at H4
          simp [e15, wp, -Int.natCast_add]
          exact ⟨P.length, by simp, by simp [e4], by simp [e12, -Int.natCast_add], P, rfl, x :: R, by simpa using hPR, by simp [-Int.natCast_add], by simpa using H4, MM.tr M4⟩
  refine ite_r (t := false) (by simp; omega) (fun h => by cases h) (fun _ => ?_)
  -- both parts longer than one
  obtain ⟨h, hhh⟩ : ∃ h, h = (X.length + Y.length) / 2 := ⟨_, rfl⟩
  have hmid := half_w (i := a) (j := b) (by omega)
  rw [show (a + b) / 2 = a + h by omega] at hmid
  have hwn : IntKind.i64.wrap (((a + h : Nat) : Int) + m) = ((a + h + m : Nat) : Int) := by rw [wI (by omega) (by omega)]; omega
  have hwp : IntKind.i64.wrap (((a + h + m : Nat) : Int) - 1) = ((a + h + m - 1 : Nat) : Int) := by rw [wI (by omega) (by omega)]; omega
  simp [hmid, hwn, hwp, -Int.natCast_add]
  have gX : ∀ t, t < X.length → gnn (A ++ (X ++ (Y ++ B))) (a + t) = gnn X t := fun t ht => by
    rw [ha]; exact gnn_in A X (Y ++ B) ht
  have gY : ∀ t, t < Y.length → gnn (A ++ (X ++ (Y ++ B))) (m + t) = gnn Y t := fun t ht => by
    have := gnn_in (A ++ X) Y B ht
    rw [List.length_append, ← hm] at this
    simpa using this
  obtain ⟨s0, hs0⟩ : ∃ s0, s0 = if h < X.length then h - Y.length else 0 := ⟨_, rfl⟩
  obtain ⟨t0, ht0⟩ : ∃ t0, t0 = if h < X.length then h else X.length := ⟨_, rfl⟩
  have hst : s0 ≤ t0 := by split at hs0 <;> split at ht0 <;> omega
  have ht0h : t0 ≤ h := by split at ht0 <;> omega
  have ht0X : t0 ≤ X.length := by split at ht0 <;> omega
  have hs0Y : h ≤ Y.length + s0 := by split at hs0 <;> omega
  refine ite_cut (t := decide (h < X.length)) (fun env' w' => w' = w1 ∧ env' 1 = .int .i64 a ∧ env' 2 = .int .i64 m ∧ env' 3 = .int .i64 b ∧ env' 4 = .pointer (some ⟨q, 0, none⟩) ∧ env' 16 = .int .i64 (a + h : Nat) ∧ env' 17 = .int .i64 (a + h + m : Nat) ∧ env' 18 = .int .i64 (a + s0 : Nat) ∧ env' 19 = .int .i64 (a + t0 : Nat)) ?_ ?_ ?_ ?_
  · simp; omega
  · intro hc
    have hc : h < X.length := by simpa using hc
    rw [if_pos hc] at hs0 ht0
    have hw : IntKind.i64.wrap (((a + h + m : Nat) : Int) - b) = ((a + s0 : Nat) : Int) := by rw [wI (by omega) (by omega)]; omega
    simp [hw, -Int.natCast_add]
    rw [ht0]
  · intro hc
    have hc : ¬ h < X.length := by simpa using hc
    rw [if_neg hc] at hs0 ht0
    simp [-Int.natCast_add]
    exact ⟨by rw [hs0]; rfl, by rw [ht0, ha, ← hm]⟩
  · rintro env w2 ⟨rfl, e1, e2, e3, e4, e16, e17, e18, e19⟩
    simp [e17, hwp, -Int.natCast_add]
    refine loop_w (fun z env' w' => env' 1 = .int .i64 a ∧ env' 2 = .int .i64 m ∧ env' 3 = .int .i64 b ∧ env' 4 = .pointer (some ⟨q, 0, none⟩) ∧ env' 16 = .int .i64 (a + h : Nat) ∧ env' 17 = .int .i64 (a + h + m : Nat) ∧ env' 20 = .int .i64 (a + h + m - 1 : Nat) ∧
        ∃ s t, z = t - s ∧ s0 ≤ s ∧ s ≤ t ∧ t ≤ t0 ∧ env' 18 = .int .i64 (a + s : Nat) ∧ env' 19 = .int .i64 (a + t : Nat) ∧ (s = s0 ∨ wtF T (gnn X (s - 1)) ≤ wtF T (gnn Y (h - s))) ∧ (t = t0 ∨ wtF T (gnn Y (h - 1 - t)) < wtF T (gnn X t)) ∧
        SRw W T g n (A ++ (X ++ (Y ++ B))) w' ∧ Mod (fun k => k = g) w2 w') (t0 - s0)
      (fun env' w' => env' 1 = .int .i64 a ∧ env' 2 = .int .i64 m ∧ env' 3 = .int .i64 b ∧ env' 4 = .pointer (some ⟨q, 0, none⟩) ∧ env' 16 = .int .i64 (a + h : Nat) ∧ env' 17 = .int .i64 (a + h + m : Nat) ∧ ∃ s, s0 ≤ s ∧ s ≤ t0 ∧ env' 18 = .int .i64 (a + s : Nat) ∧
        mrg (wtF T) X Y = mrg (wtF T) (X.take s) (Y.take (h - s)) ++ mrg (wtF T) (X.drop s) (Y.drop (h - s)) ∧ SRw W T g n (A ++ (X ++ (Y ++ B))) w' ∧ Mod (fun k => k = g) w2 w') ?_ ?_ ?_
    · exact ⟨by simp [e1], by simp [e2], by simp [e3], by simp [e4], by simp [e16, -Int.natCast_add], by simp [e17, -Int.natCast_add], by simp [-Int.natCast_add], s0, t0, rfl, Nat.le_refl _, hst, Nat.le_refl _, by simp [e18, -Int.natCast_add], by simp [e19, -Int.natCast_add], .inl rfl, .inl rfl, H1, Mod.refl _ _⟩
    · rintro z env w3 ⟨e1, e2, e3, e4, e16, e17, e20, s, t, rfl, hs, hstt, htt, e18, e19, ps, pt, H, MM⟩
      obtain ⟨D0, D2⟩ := D1.mod MM hne
      simp [e18, e19, -Int.natCast_add]
      by_cases hlt : s < t
      · have hw := half_w (i := a + s) (j := a + t) (by omega)
        obtain ⟨u, hu⟩ : ∃ u, (a + s + (a + t)) / 2 = a + u := ⟨(a + s + (a + t)) / 2 - a, by omega⟩
        rw [hu] at hw
        have hus : s ≤ u := by omega
        have hut : u < t := by omega
        have wh : IntKind.i64.wrap (((a + u : Nat) : Int) + 1) = ((a + (u + 1) : Nat) : Int) := by rw [wI (by omega) (by omega)]; omega
        have wpc : IntKind.i64.wrap (((a + h + m - 1 : Nat) : Int) - ((a + u : Nat) : Int)) = ((m + (h - 1 - u) : Nat) : Int) := by rw [wI (by omega) (by omega)]; omega
        refine ite_r (t := true) (by simp; omega) (fun _ => ?_) (fun h => by cases h)
        simp [wp_blk, e4, e18, e19, e20, D0, D2, hw, wpc, -Int.natCast_add]
        refine less_r C H (m + (h - 1 - u)) (a + u) (by omega) (by omega) (by simp) (by simp [e20, wpc, -Int.natCast_add]) (by simp [-Int.natCast_add]) ?_
        intro w4 H4 M4
        rw [gX u (by omega), gY (h - 1 - u) (by omega), ltW_iff]
        have MM4 := MM.tr (M4.mono fun _ _ h => h.elim)
        by_cases hl : wtF T (gnn Y (h - 1 - u)) < wtF T (gnn X u)
        · have hl' : (ndG T (gnn Y (h - 1 - u))).wt < (ndG T (gnn X u)).wt := hl
          simp [hl', -Int.natCast_add]
          refine ite_r (t := false) (by simp) (fun h => by cases h) (fun _ => ?_)
          simp [-Int.natCast_add]
          exact ⟨u - s, by omega, by simp [e1], by simp [e2], by simp [e3], by simp [e4], by simp [e16, -Int.natCast_add], by simp [e17, -Int.natCast_add], by simp [e20, -Int.natCast_add], s, u, rfl, hs, by omega, by omega, by simp [e18, -Int.natCast_add], by simp [-Int.natCast_add], ps, .inr hl, H4, MM4⟩
        · have hl' : ¬ (ndG T (gnn Y (h - 1 - u))).wt < (ndG T (gnn X u)).wt := hl
          simp [hl', -Int.natCast_add]
          refine ite_r (t := true) (by simp) (fun _ => ?_) (fun h => by cases h)
          simp [wh, -Int.natCast_add]
          exact ⟨t - (u + 1), by omega, by simp [e1], by simp [e2], by simp [e3], by simp [e4], by simp [e16, -Int.natCast_add], by simp [e17, -Int.natCast_add], by simp [e20, -Int.natCast_add], u + 1, t, rfl, by omega, by omega, htt, by simp [-Int.natCast_add], by simp [e19, -Int.natCast_add], .inr (by rw [show h - (u + 1) = h - 1 - u by omega]; simpa using Int.not_lt.1 hl), pt, H4, MM4⟩
      · refine ite_r (t := false) (by simp; omega) (fun h => by cases h) (fun _ => ?_)
        obtain rfl : s = t := by omega
        simp [e1, e2, e3, e4, e16, e17, -Int.natCast_add]
        exact ⟨s, hs, htt, by simp [e18, -Int.natCast_add], mrg_cut hX hY hhh hs0 ht0 hs htt ps pt, H, MM⟩
    · rintro env w3 ⟨e1, e2, e3, e4, e16, e17, s, hs, hst0, e18, hcut, H, MM⟩
      rw [hcut]
      have lX1 : (X.take s).length = s := by rw [List.length_take]; omega
      have lX2 : (X.drop s).length = X.length - s := List.length_drop
      have lY1 : (Y.take (h - s)).length = h - s := by rw [List.length_take]; omega
      have lY2 : (Y.drop (h - s)).length = Y.length - (h - s) := List.length_drop
      have aX1 := asc_take hX s
      have aX2 := asc_drop hX s
      have aY1 := asc_take hY (h - s)
      have aY2 := asc_drop hY (h - s)
      have H : SRw W T g n (A ++ (X.take s ++ (X.drop s ++ (Y.take (h - s) ++ (Y.drop (h - s) ++ B))))) w3 := by
        rw [← List.append_assoc (Y.take _), List.take_append_drop, ← List.append_assoc (X.take s), List.take_append_drop]; exact H
      generalize X.take s = X1 at *
      generalize X.drop s = X2 at *
      generalize Y.take (h - s) = Y1 at *
      generalize Y.drop (h - s) = Y2 at *
      have we : IntKind.i64.wrap (((a + h + m : Nat) : Int) - ((a + s : Nat) : Int)) = ((m + (h - s) : Nat) : Int) := by rw [wI (by omega) (by omega)]; omega
      simp [e2, e17, e18, we, -Int.natCast_add]
      refine ite_cut (t := decide (0 < X2.length ∧ 0 < Y1.length)) (fun env' w' => env' 1 = .int .i64 a ∧ env' 3 = .int .i64 b ∧ env' 4 = .pointer (some ⟨q, 0, none⟩) ∧ env' 16 = .int .i64 (a + h : Nat) ∧ env' 18 = .int .i64 (a + s : Nat) ∧ env' 22 = .int .i64 (m + (h - s) : Nat) ∧
        SRw W T g n (A ++ (X1 ++ (Y1 ++ (X2 ++ (Y2 ++ B))))) w' ∧ Mod (fun k => k = g) w2 w') ?_ ?_ ?_ ?_
      · simp; congr 1 <;> (rw [decide_eq_decide]; omega)
      · intro hc
        have hc : 0 < X2.length ∧ 0 < Y1.length := by simpa using hc
        obtain ⟨DA, DB⟩ := (D1.mod MM hne).ld
        simp [e2, e4, e18, DB, -Int.natCast_add]
        refine ⟨DA, ?_⟩
        refine call_h (rotate_c C (A := A ++ X1) (U := X2) (V := Y1) (B := Y2 ++ B) (by simpa using H) hc.1 hc.2 (a := a + s) (m := m) (b := m + (h - s)) (by simp; omega) (by simp; omega) (by simp; omega)) (by simp [e2, e18, dat, -Int.natCast_add]) ?_
        rintro r w4 ⟨rfl, H4, M4⟩
        simp [-Int.natCast_add]
        exact ⟨by simp [e1], by simp [e3], by simp [e4], by simp [e16, -Int.natCast_add], by simp [e18, -Int.natCast_add], by simpa using H4, MM.tr M4⟩
      · intro hc
        have hc : ¬ (0 < X2.length ∧ 0 < Y1.length) := by simpa using hc
        simp [-Int.natCast_add]
        refine ⟨by simp [e1], by simp [e3], by simp [e4], by simp [e16, -Int.natCast_add], by simp [e18, -Int.natCast_add], ?_, MM⟩
        rcases Nat.eq_zero_or_pos X2.length with h0 | h0
        · obtain rfl := List.length_eq_zero_iff.1 h0
          simpa using H
        · obtain rfl := List.length_eq_zero_iff.1 (show Y1.length = 0 by omega)
          simpa using H
      · rintro env w4 ⟨e1, e3, e4, e16, e18, e22, H, MM⟩
        simp [e1, e16, e18, -Int.natCast_add]
        refine ite_cut (t := decide (0 < X1.length ∧ 0 < Y1.length)) (fun env' w' => env' 3 = .int .i64 b ∧ env' 4 = .pointer (some ⟨q, 0, none⟩) ∧ env' 16 = .int .i64 (a + h : Nat) ∧ env' 22 = .int .i64 (m + (h - s) : Nat) ∧
          SRw W T g n (A ++ (mrg (wtF T) X1 Y1 ++ (X2 ++ (Y2 ++ B)))) w' ∧ Mod (fun k => k = g) w2 w') ?_ ?_ ?_ ?_
        · simp; congr 1 <;> (rw [decide_eq_decide]; omega)
        · intro hc
          have hc : 0 < X1.length ∧ 0 < Y1.length := by simpa using hc
          obtain ⟨DA, DB⟩ := (D1.mod MM hne).ld
          simp [e1, e4, e16, e18, DB, -Int.natCast_add]
          refine ⟨DA, ?_⟩
          refine call_h (ih (A := A) (X := X1) (Y := Y1) (B := X2 ++ (Y2 ++ B)) (by omega) hc.1 hc.2 aX1 aY1 H (a := a) (m := a + s) (b := a + h) ha (by omega) (by omega)) (by simp [e1, e16, e18, dat, -Int.natCast_add]) ?_
          rintro r w5 ⟨rfl, H5, M5⟩
          simp [-Int.natCast_add]
          exact ⟨by simp [e3], by simp [e4], by simp [e16, -Int.natCast_add], by simp [e22, -Int.natCast_add], H5, MM.tr M5⟩
        · intro hc
          have hc : ¬ (0 < X1.length ∧ 0 < Y1.length) := by simpa using hc
          simp [-Int.natCast_add]
          refine ⟨by simp [e3], by simp [e4], by simp [e16, -Int.natCast_add], by simp [e22, -Int.natCast_add], ?_, MM⟩
          rcases Nat.eq_zero_or_pos X1.length with h0 | h0
          · obtain rfl := List.length_eq_zero_iff.1 h0
            rw [mrg_nil']; exact H
          · obtain rfl := List.length_eq_zero_iff.1 (show Y1.length = 0 by omega)
            rw [mrg_nil]; exact H
        · rintro env w5 ⟨e3, e4, e16, e22, H, MM⟩
          have lm : (mrg (wtF T) X1 Y1).length = h := by rw [mrg_len _ _ _ _ rfl]; omega
          simp [e3, e16, e22, -Int.natCast_add]
          refine ite_cut (t := decide (0 < X2.length ∧ 0 < Y2.length)) (fun env' w' => SRw W T g n (A ++ (mrg (wtF T) X1 Y1 ++ (mrg (wtF T) X2 Y2 ++ B))) w' ∧ Mod (fun k => k = g) w2 w') ?_ ?_ ?_ ?_
          · simp; congr 1 <;> (rw [decide_eq_decide]; omega)
          · intro hc
            have hc : 0 < X2.length ∧ 0 < Y2.length := by simpa using hc
            obtain ⟨DA, DB⟩ := (D1.mod MM hne).ld
            simp [e3, e4, e16, e22, DB, -Int.natCast_add]
            refine ⟨DA, ?_⟩
            refine call_h (ih (A := A ++ mrg (wtF T) X1 Y1) (X := X2) (Y := Y2) (B := B) (by omega) hc.1 hc.2 aX2 aY2 (by simpa using H) (a := a + h) (m := m + (h - s)) (b := b) (by simp; omega) (by simp; omega) (by simp; omega)) (by simp [e3, e16, e22, dat, -Int.natCast_add]) ?_
            rintro r w6 ⟨rfl, H6, M6⟩
            simp
            exact ⟨by simpa using H6, MM.tr M6⟩
          · intro hc
            have hc : ¬ (0 < X2.length ∧ 0 < Y2.length) := by simpa using hc
            simp
            refine ⟨?_, MM⟩
            rcases Nat.eq_zero_or_pos X2.length with h0 | h0
            · obtain rfl := List.length_eq_zero_iff.1 h0
              rw [mrg_nil']; exact H
            · obtain rfl := List.length_eq_zero_iff.1 (show Y2.length = 0 by omega)
              rw [mrg_nil]; simpa using H
          · rintro env w6 ⟨H, MM⟩
            simp
            exact ⟨by simpa using H, (M1.mono fun _ _ h => h.elim).tr MM⟩
theorem symM_c (C : SC W T lb sb sf g n) : ∀ F, SymH W T lb sb sf g n F
  | 0 => fun hF hX0 => by omega
  | F + 1 => symM_step C F (symM_c C F)
end

end Go.Proofs.Ytgjnfajdejkkjaa.VG

/-! ## The library's stable sort is the insertion's order, whatever the length. -/
namespace Go.Proofs.Ytgjnfajdejkkjaa.VG
open Go
set_option linter.unusedSimpArgs false
set_option linter.unusedVariables false
set_option maxRecDepth 20000

/-- Blocks of s, each in order. -/
inductive Blk (lt : Nat → Nat → Bool) (s : Nat) : List Nat → List Nat → Prop where
  | last {l : List Nat} : l.length ≤ s → Blk lt s l (srt lt l)
  | cons {X R D : List Nat} : X.length = s → Blk lt s R D → Blk lt s (X ++ R) (srt lt X ++ D)
/-- Blocks ahead, whatever follows. -/
def PreB (lt : Nat → Nat → Bool) (s : Nat) (L D : List Nat) : Prop := L.length = D.length ∧ ∀ R E, Blk lt s R E → Blk lt s (L ++ R) (D ++ E)
theorem PreB.nil (lt : Nat → Nat → Bool) (s : Nat) : PreB lt s [] [] := ⟨rfl, fun _ _ h => h⟩
theorem PreB.snoc {lt : Nat → Nat → Bool} {s : Nat} {L D X : List Nat} (h : PreB lt s L D) (hX : X.length = s) : PreB lt s (L ++ X) (D ++ srt lt X) := ⟨by simp [h.1, srt_length], fun R E hR => by
  rw [List.append_assoc, List.append_assoc]
  exact h.2 _ _ (.cons hX hR)⟩
theorem srt_nil (lt : Nat → Nat → Bool) : srt lt [] = [] := rfl
theorem blk_len {lt : Nat → Nat → Bool} {s : Nat} {l d : List Nat} (h : Blk lt s l d) : d.length = l.length := by
  induction h with
  | last h => exact srt_length _ _
  | cons hX hR ih => simp [ih, srt_length]
theorem blk_done {lt : Nat → Nat → Bool} {s : Nat} {l d : List Nat} (h : Blk lt s l d) (h0 : 0 < s) (hl : l.length ≤ s) : d = srt lt l := by
  cases h with
  | last _ => rfl
  | cons hX hR =>
    rename_i X R D
    rw [List.length_append] at hl
    obtain rfl := List.length_eq_zero_iff.1 (show R.length = 0 by omega)
    have := blk_len hR
    obtain rfl := List.length_eq_zero_iff.1 (show D.length = 0 by simpa using this)
    simp
theorem blk_mid {lt : Nat → Nat → Bool} {s : Nat} {l d : List Nat} (h : Blk lt s l d) (h1 : s < l.length) (h2 : l.length < 2 * s) : ∃ X R, l = X ++ R ∧ X.length = s ∧ 0 < R.length ∧ d = srt lt X ++ srt lt R := by
  cases h with
  | last h => omega
  | cons hX hR =>
    rename_i X R D
    rw [List.length_append] at h1 h2
    exact ⟨X, R, rfl, hX, by omega, by rw [blk_done hR (by omega) (by omega)]⟩
theorem blk_two {lt : Nat → Nat → Bool} {s : Nat} {l d : List Nat} (h : Blk lt s l d) (h0 : 0 < s) (h2 : 2 * s ≤ l.length) : ∃ X Y R D, l = X ++ (Y ++ R) ∧ X.length = s ∧ Y.length = s ∧ d = srt lt X ++ (srt lt Y ++ D) ∧ Blk lt s R D := by
  cases h with
  | last h => omega
  | cons hX hR =>
    rename_i X R D
    rw [List.length_append] at h2
    cases hR with
    | last h => exact ⟨X, R, [], [], by simp, hX, by omega, by simp, .last (by simp)⟩
    | cons hY hR' => rename_i Y R' D'; exact ⟨X, Y, R', D', rfl, hX, hY, rfl, hR'⟩
section
variable {W w : World} {T : List Nd} {lb sb : Array Value} {sf g n : Nat}

set_option maxHeartbeats 8000000 in
theorem stabF_c (C : SC W T lb sb sf g n) {l : List Nat} (H : SRw W T g n l w) :
    Calls Try.prog 57 [dat lb sb sf, .int .i64 n].toArray w (Ret fun r w' => r = .tuple #[] ∧ SRw W T g n (srt (ltW T) l) w' ∧ Mod (fun k => k = g) w w') := by
  refine F_sound c57 (by simp [fc57]) ?_
  have hlen : l.length = n := H.2
  have hsm := C.small
  have hne : w.heap.size ≠ g := by have := H.ge C; omega
  have hlt : ∀ x y, ltW T x y = decide (wtF T x < wtF T y) := fun _ _ => rfl
  simp [fc57, s57]
  refine boxW_r (dat lb sb sf) (by simp) ?_
  intro hh M1
  have H1 := H.alloc (.cells (dat lb sb sf).cells 101)
  have D1 := DCell.mk' hh
  generalize w.alloc (.cells (dat lb sb sf).cells 101) = w1 at *
  generalize w.heap.size = q at *
  simp
  -- the blocks
  refine loop_w (fun z env' w' => env' 1 = .int .i64 n ∧ env' 2 = .pointer (some ⟨q, 0, none⟩) ∧ env' 4 = .int .i64 20 ∧ ∃ L R D, z = R.length ∧ l = L ++ R ∧ env' 5 = .int .i64 L.length ∧ env' 6 = .int .i64 (L.length + 20 : Nat) ∧ PreB (ltW T) 20 L D ∧ SRw W T g n (D ++ R) w' ∧ Mod (fun k => k = g) w1 w') n
    (fun env' w' => env' 1 = .int .i64 n ∧ env' 2 = .pointer (some ⟨q, 0, none⟩) ∧ env' 4 = .int .i64 20 ∧ ∃ L R D, l = L ++ R ∧ R.length < 20 ∧ env' 5 = .int .i64 L.length ∧ PreB (ltW T) 20 L D ∧ SRw W T g n (D ++ R) w' ∧ Mod (fun k => k = g) w1 w') ?_ ?_ ?_
  · exact ⟨by simp, by simp, by simp, [], l, [], hlen.symm, rfl, by simp, by simp, PreB.nil _ _, H1, Mod.refl _ _⟩
  · rintro z env w2 ⟨e1, e2, e4, L, R, D, rfl, rfl, e5, e6, hP, H, MM⟩
    rw [List.length_append] at hlen
    simp [e1, e6, -Int.natCast_add]
    by_cases hR : 20 ≤ R.length
    · obtain ⟨X, R, rfl, hX⟩ : ∃ X R', R = X ++ R' ∧ X.length = 20 := ⟨R.take 20, R.drop 20, (List.take_append_drop _ _).symm, by simp; omega⟩
      rw [List.length_append] at hlen
      have w6 : IntKind.i64.wrap (((L.length + 20 : Nat) : Int) + 20) = ((L.length + 20 + 20 : Nat) : Int) := by rw [wI (by omega) (by omega)]; omega
      obtain ⟨DA, DB⟩ := (D1.mod MM hne).ld
      refine ite_r (t := true) (by simp; omega) (fun _ => ?_) (fun h => by cases h)
      simp [wp_blk, e2, DB, -Int.natCast_add]
      refine ⟨DA, ?_⟩
      refine call_h (insS_c C (A := D) (X := X) (B := R) H (a := L.length) (b := L.length + 20) hP.1 (by have := hP.1; omega)) (by simp [e5, e6, dat, -Int.natCast_add]) ?_
      rintro r w3 ⟨rfl, H3, M3⟩
      simp [e4, e6, w6, -Int.natCast_add]
      refine ⟨R.length, by omega, by simp [e1], by simp [e2], L ++ X, R, rfl, by simp, by simp [hX], by simp [hX], D ++ srt (ltW T) X, hP.snoc hX, by simpa using H3, MM.tr M3⟩
    · refine ite_r (t := false) (by simp; omega) (fun h => by cases h) (fun _ => ?_)
      simp [e1, e2, e4, e5]
      exact ⟨L, R, rfl, by omega, rfl, D, hP, H, MM⟩
  · rintro env w2 ⟨e1, e2, e4, L, R, D, rfl, hR, e5, hP, H, MM⟩
    rw [List.length_append] at hlen
    obtain ⟨DA, DB⟩ := (D1.mod MM hne).ld
    simp [e2, DB]
    refine ⟨DA, ?_⟩
    refine call_h (insS_c C (A := D) (X := R) (B := []) (by simpa using H) (a := L.length) (b := n) hP.1 (by have := hP.1; omega)) (by simp [e1, e5, dat]) ?_
    rintro r w3 ⟨rfl, H3, M3⟩
    have hB := hP.2 _ _ (.last (by omega : R.length ≤ 20))
    rw [List.append_nil] at H3
    replace MM := MM.tr M3
    rw [← List.length_append] at hlen
    generalize hl : L ++ R = l at *
    generalize D ++ srt (ltW T) R = d0 at *
    simp
    -- the passes
    refine loop_r (fun z env' w' => env' 1 = .int .i64 n ∧ env' 2 = .pointer (some ⟨q, 0, none⟩) ∧ ∃ s d, z = n - s ∧ 0 < s ∧ (s < n → s < 2305843009213693952) ∧ s < 4611686018427387904 ∧ env' 4 = .int .i64 (s : Nat) ∧ Blk (ltW T) s l d ∧ SRw W T g n d w' ∧ Mod (fun k => k = g) w1 w') (n - 20) ?_ ?_
    · exact ⟨by simp [e1], by simp [e2], 20, d0, rfl, by omega, by omega, by omega, by simp [e4], hB, H3, MM⟩
    · rintro z env w4 ⟨e1, e2, s, d, rfl, hs0, hs1, hs2, e4, hB, H, MM⟩
      simp [e1, e4]
      by_cases hsn : s < n
      · have hs1 := hs1 hsn
        have w2s : IntKind.i64.wrap (2 * (s : Int)) = ((2 * s : Nat) : Int) := by rw [wI (by omega) (by omega)]; omega
        have ws2 : IntKind.i64.wrap ((s : Int) * 2) = ((2 * s : Nat) : Int) := by rw [wI (by omega) (by omega)]; omega
        refine ite_r (t := true) (by simp; omega) (fun _ => ?_) (fun h => by cases h)
        show S.wp _ (S.blk 3 _ _) _ _ _
        rw [wp_blk]
        simp [e4, w2s, -Int.natCast_mul]
        refine loop_w (fun z env' w' => env' 1 = .int .i64 n ∧ env' 2 = .pointer (some ⟨q, 0, none⟩) ∧ env' 4 = .int .i64 (s : Nat) ∧ ∃ L R D E, z = R.length ∧ l = L ++ R ∧ env' 5 = .int .i64 L.length ∧ env' 6 = .int .i64 (L.length + 2 * s : Nat) ∧ PreB (ltW T) (2 * s) L D ∧ Blk (ltW T) s R E ∧ SRw W T g n (D ++ E) w' ∧ Mod (fun k => k = g) w1 w') n
          (fun env' w' => env' 1 = .int .i64 n ∧ env' 2 = .pointer (some ⟨q, 0, none⟩) ∧ env' 4 = .int .i64 (s : Nat) ∧ ∃ L R D E, l = L ++ R ∧ R.length < 2 * s ∧ env' 5 = .int .i64 L.length ∧ PreB (ltW T) (2 * s) L D ∧ Blk (ltW T) s R E ∧ SRw W T g n (D ++ E) w' ∧ Mod (fun k => k = g) w1 w') ?_ ?_ ?_
        · exact ⟨by simp [e1], by simp [e2], by simp [e4], [], l, [], d, hlen.symm, rfl, by simp, by simp, PreB.nil _ _, hB, H, MM⟩
        · rintro z env w5 ⟨e1, e2, e4, L, R, D, E, rfl, hlR, e5, e6, hP, hB, H, MM⟩
          have hlR' := congrArg List.length hlR
          rw [List.length_append] at hlR'
          simp [e1, e6, -Int.natCast_add, -Int.natCast_mul]
          by_cases hR : 2 * s ≤ R.length
          · obtain ⟨X, Y, R', E', rfl, hX, hY, rfl, hB'⟩ := blk_two hB hs0 hR
            rw [List.length_append, List.length_append] at hlR'
            have w5' : IntKind.i64.wrap ((L.length : Int) + s) = ((L.length + s : Nat) : Int) := by rw [wI (by omega) (by omega)]; omega
            have w6' : IntKind.i64.wrap (((L.length + 2 * s : Nat) : Int) + ((2 * s : Nat) : Int)) = ((L.length + 2 * s + 2 * s : Nat) : Int) := by rw [wI (by omega) (by omega)]; omega
            obtain ⟨DA, DB⟩ := (D1.mod MM hne).ld
            refine ite_r (t := true) (by simp; omega) (fun _ => ?_) (fun h => by cases h)
            simp [wp_blk, e2, e4, e5, w5', DB, -Int.natCast_add, -Int.natCast_mul]
            refine ⟨DA, ?_⟩
            have hP1 := hP.1
            refine call_h (symM_c C (X.length + Y.length) (A := D) (X := srt (ltW T) X) (Y := srt (ltW T) Y) (B := E') (by simp [srt_length]) (by rw [srt_length]; omega) (by rw [srt_length]; omega) (srt_asc hlt X) (srt_asc hlt Y) (by simpa using H) (a := L.length) (m := L.length + s) (b := L.length + 2 * s) hP1 (by rw [srt_length]; omega) (by rw [srt_length, srt_length]; omega)) (by simp [e4, e5, e6, w5', dat, -Int.natCast_add, -Int.natCast_mul]) ?_
            rintro r w6 ⟨rfl, H6, M6⟩
            rw [mrg_srt hlt] at H6
            simp [e4, e6, w2s, w6', -Int.natCast_add, -Int.natCast_mul]
            refine ⟨R'.length, by omega, by simp [e1], by simp [e2], L ++ (X ++ Y), R', rfl, by simp [hlR], by simp [hX, hY, -Int.natCast_add]; omega, by simp [hX, hY, -Int.natCast_add]; omega, D ++ srt (ltW T) (X ++ Y), hP.snoc (by simp [hX, hY]; omega), E', hB', by simpa using H6, MM.tr M6⟩
          · refine ite_r (t := false) (by simp; omega) (fun h => by cases h) (fun _ => ?_)
            simp [e1, e2, e4, e5]
            exact ⟨L, R, hlR, by omega, rfl, D, hP, E, hB, H, MM⟩
        · rintro env w5 ⟨e1, e2, e4, L, R, D, E, hlR, hR, e5, hP, hB, H, MM⟩
          have hlR' := congrArg List.length hlR
          rw [List.length_append] at hlR'
          have w5' : IntKind.i64.wrap ((L.length : Int) + s) = ((L.length + s : Nat) : Int) := by rw [wI (by omega) (by omega)]; omega
          have hP1 := hP.1
          simp [e1, e4, e5, w5', -Int.natCast_add]
          refine ite_cut (t := decide (s < R.length)) (fun env' w' => env' 1 = .int .i64 n ∧ env' 2 = .pointer (some ⟨q, 0, none⟩) ∧ env' 4 = .int .i64 (s : Nat) ∧ SRw W T g n (D ++ srt (ltW T) R) w' ∧ Mod (fun k => k = g) w1 w') ?_ ?_ ?_ ?_
          · simp; omega
          · intro hc
            have hc : s < R.length := by simpa using hc
            obtain ⟨X, Y, rfl, hX, hY, rfl⟩ := blk_mid hB hc hR
            rw [List.length_append] at hlR'
            obtain ⟨DA, DB⟩ := (D1.mod MM hne).ld
            simp [e2, DB, -Int.natCast_add]
            refine ⟨DA, ?_⟩
            refine call_h (symM_c C (X.length + Y.length) (A := D) (X := srt (ltW T) X) (Y := srt (ltW T) Y) (B := []) (by simp [srt_length]) (by rw [srt_length]; omega) (by rw [srt_length]; omega) (srt_asc hlt X) (srt_asc hlt Y) (by simpa using H) (a := L.length) (m := L.length + s) (b := n) hP1 (by rw [srt_length]; omega) (by rw [srt_length, srt_length]; omega)) (by simp [e1, e5, w5', dat, -Int.natCast_add]) ?_
            rintro r w6 ⟨rfl, H6, M6⟩
            rw [mrg_srt hlt, List.append_nil] at H6
            simp [-Int.natCast_add]
            exact ⟨by simp [e1], by simp [e2], by simp [e4], H6, MM.tr M6⟩
          · intro hc
            have hc : ¬ s < R.length := by simpa using hc
            simp [-Int.natCast_add]
            exact ⟨by simp [e1], by simp [e2], by simp [e4], by rw [← blk_done hB hs0 (by omega)]; exact H, MM⟩
          · rintro env w6 ⟨e1, e2, e4, H, MM⟩
            simp [e4, ws2, -Int.natCast_mul]
            have hB2 := hP.2 _ _ (.last (by omega : R.length ≤ 2 * s))
            rw [← hlR] at hB2
            exact ⟨n - 2 * s, by omega, by simp [e1], by simp [e2], 2 * s, rfl, by omega, by omega, by omega, rfl, _, hB2, H, MM⟩
      · refine ite_r (t := false) (by simp; omega) (fun h => by cases h) (fun _ => ?_)
        simp
        rw [← blk_done hB hs0 (by omega)]
        exact ⟨H, (M1.mono fun _ _ h => h.elim).tr MM⟩
end

end Go.Proofs.Ytgjnfajdejkkjaa.VG

/-! ## The program's order of a row, whatever its length. -/
namespace Go.Proofs.Ytgjnfajdejkkjaa.VG
open Go
set_option linter.unusedSimpArgs false
set_option linter.unusedVariables false
set_option maxRecDepth 20000

set_option maxHeartbeats 2000000 in
theorem stable_c {w : World} {S : List Nd} {B g c : Nat} {r : List Nat} (hg : g < w.heap.size) (hH : Sort.Holds (ndP S) w g 0 r.toArray) (h20 : r.length ≤ 1000000)
    (hB : w.cell? ⟨B, 0, none⟩ = some (.slice (some ⟨g, 0, none⟩) r.length c)) (hBg : B < w.heap.size ∧ B ≠ g) (hN : ∀ i, w.cell? ⟨(ndG S i).b, 0, none⟩ = some (.int .i64 (ndG S i).wt) ∧ (ndG S i).b < w.heap.size ∧ (ndG S i).b ≠ g) :
    Calls Try.prog 52 [.iface 60 (.slice (some ⟨g, 0, none⟩) r.length c), .func (.func 53) #[] #[.pointer (some ⟨B, 0, none⟩)]].toArray w
      (Ret fun x w' => x = .tuple #[] ∧ ∃ n os, w' = Sort.grow (Sort.putRow (ndP S) (Sort.ahead w n) g 0 (srt (ltW S) r).toArray) os) := by
  by_cases h2 : 2 ≤ r.length
  · have hless : LessReads Try.prog 53 #[.pointer (some ⟨B, 0, none⟩)] (ndP S) (ltW S) g 0 r.length w := by
      intro m os dk hs i j hi hj
      obtain ⟨h1, h3⟩ := cell_sorted (m := m) (os := os) (dk := dk) hg hH (by simpa using hs)
      refine (less_c (w := sortWorld (ndP S) w g 0 m dk os) (S := S) (B := B) (blk := g) (n := r.length) (c := c) (r := fun t => dk[t]!) ?_ ?_ ?_ i j (by simpa using hi) (by simpa using hj)).mono ?_
      · rw [h3 B 0 hBg.1 hBg.2]; exact hB
      · exact fun t ht => h1 t (by simpa using ht)
      · exact fun i => by rw [h3 _ 0 (hN i).2.1 (hN i).2.2]; exact (hN i).1
      · rintro e w' ⟨v, rfl, rfl, rfl⟩
        exact ⟨rfl, 1, rfl⟩
    have hsB : sliceBound Try.prog 61 siE 22 (some ⟨g, 0, none⟩) r.length c = #[.slice (some ⟨g, 0, none⟩) r.length c, typeHandle Try.prog 61] := by
      unfold sliceBound; rw [if_neg (swapperK_gt _ _ _ h2)]
    have hW : ∃ os0, stableWorld Try.prog sl8_ren 60 (some ⟨g, 0, none⟩) r.length c w = Sort.grow w os0 := ⟨_, by unfold stableWorld; rw [Sort.alloc_eq_grow, Sort.alloc_eq_grow, Sort.grow_grow]⟩
    obtain ⟨os0, hW⟩ := hW
    have hgg : g < (Sort.grow w os0).heap.size := by rw [Sort.size_grow]; omega
    have hHg := Sort.holds_grow (ndP S) w os0 g 0 r.toArray hg hH
    have C : SC (Sort.grow w os0) S #[.pointer (some ⟨B, 0, none⟩)] (sliceBound Try.prog 61 siE 22 (some ⟨g, 0, none⟩) r.length c) 61 g r.length := by
      refine ⟨hless.grow hg os0, ?_, hgg, ⟨r.toArray, hHg, by simp⟩, by omega⟩
      rw [hsB]
      exact swapSwaps_of_literal true 61 (fun args W => run_callFunc_extern Try.func61 (by kernel_rfl) (by kernel_rfl) (by kernel_rfl) (e := Extern.ReflectliteSwapper.swap true) (by kernel_rfl) args W) 61 siE (by kernel_rfl) (by kernel_rfl) (fun _ => by kernel_rfl) (ndP S) (fun _ => rfl) g 0 r.length c
    have hc := stabF_c C (l := r) (w := Sort.grow w os0) ⟨SW.start hHg, rfl⟩
    refine Any.sort_SliceStable_of_stable sl8 60 61 siT siE (by kernel_rfl) (by kernel_rfl) (by kernel_rfl) (by kernel_rfl) 22 (fun _ => by kernel_rfl) (some ⟨g, 0, none⟩) r.length c (by omega) 61 (by rw [siK _ h2]; kernel_rfl) (.func 53) #[] #[.pointer (some ⟨B, 0, none⟩)] w (fun w' => ∃ n os, w' = Sort.grow (Sort.putRow (ndP S) (Sort.ahead w n) g 0 (srt (ltW S) r).toArray) os) ?_ |>.mono ?_
    · rw [hW]
      refine Calls.mono hc ?_
      rintro e w' ⟨x, rfl, rfl, ⟨⟨n, os, rfl⟩, _⟩, _⟩
      exact ⟨rfl, n, _, by unfold sortWorld; rw [Sort.ahead_grow, Sort.putRow_grow (ndP S) (Sort.ahead w n) _ g 0 _ hg, Sort.grow_grow]⟩
    · rintro e w' ⟨rfl, h⟩
      exact ⟨_, rfl, rfl, h⟩
  · have hS := Any.sort_SliceStable_tiny sl8 60 61 siT siE (by kernel_rfl) (by kernel_rfl) (by kernel_rfl) (by kernel_rfl) 22 (fun _ => by kernel_rfl) (some ⟨g, 0, none⟩) r.length c (by omega)
      (if r.length = 0 then 59 else 60) (by
        rcases Nat.lt_or_ge r.length 1 with h | h
        · rw [show r.length = 0 by omega]; kernel_rfl
        · rw [show r.length = 1 by omega]; kernel_rfl) (.func 53) #[] #[.pointer (some ⟨B, 0, none⟩)] w
    refine Calls.mono hS ?_
    rintro e w' ⟨rfl, os, rfl⟩
    refine ⟨_, rfl, rfl, 0, os, ?_⟩
    rw [srt_small _ _ (by omega), Sort.ahead_zero, Sort.putRow_self _ _ _ _ _ hH]

set_option maxHeartbeats 2000000 in
theorem order_c {w : World} {v : Value} {S : List Nd} {r : List Nat} (h0 : r ≠ []) (hr : w.ownsRow 0 61 1 v r.length (r.map (ndP S))) (h20 : r.length ≤ 1000000)
    (hN : ∀ i, w.cell? ⟨(ndG S i).b, 0, none⟩ = some (.int .i64 (ndG S i).wt) ∧ (ndG S i).b < w.heap.size ∧ v.ownBlock ≠ some (ndG S i).b) :
    Calls Try.prog 34 [v].toArray w (Ret fun x w' => x = .tuple #[] ∧ w'.ownsRow 0 61 1 v r.length ((srt (ltW S) r).map (ndP S)) ∧ Mod (fun k => v.ownBlock = some k) w w') := by
  refine F_sound c34 (by simp [fc34]) ?_
  have hl := hr.1
  rcases hr.2 with ⟨rfl, hh⟩ | ⟨g, cap, cur, rfl, _, hgg, h1, h2, h3, h4⟩
  · exact absurd (List.length_eq_zero_iff.1 hh) h0
  have hg := heap_lt hgg
  simp [fc34, s34]
  refine box_r (.slice (some ⟨g, 0, none⟩) r.length cap) (by simp) ?_
  rintro b w1 rfl hb M1 hsz
  refine ⟨trivial, ?_⟩
  have hbc : w1.cell? ⟨w.heap.size, 0, none⟩ = some (.slice (some ⟨g, 0, none⟩) r.length cap) := by rw [cell_blk hb 0]; rfl
  simp [hbc]
  refine if_r Try.underlying60 (.slice (some ⟨g, 0, none⟩) r.length cap) (by simp) ⟨.inl rfl, ?_⟩
  refine fn_r (.pointer (some ⟨w.heap.size, 0, none⟩)) (by simp) ⟨.inl rfl, ?_⟩
  have hg1 := M1.heap hgg (fun h => h)
  have hH := holds_nd (S := S) (r := r) hg1 (by simpa using h4)
  refine call_h (stable_c (S := S) (B := w.heap.size) (c := cap) (by rw [hsz]; omega) hH h20 hbc ⟨by rw [hsz]; omega, by omega⟩ fun i => ?_) (by simp) ?_
  · obtain ⟨n1, n2, n3⟩ := hN i
    exact ⟨M1.cell n1 (fun h => h), by rw [hsz]; omega, fun e => n3 (by simp [Value.ownBlock, e])⟩
  rintro x w2 ⟨rfl, n, os, rfl⟩
  simp
  have hlen := srt_length (ltW S) r
  refine ⟨⟨by simp [hlen], .inr ⟨g, cap, _, rfl, Nat.zero_le _, heap_nd _ hg1, h1, h2, by simpa [Sort.putCells] using h3, ?_⟩⟩, (M1.mono (fun _ _ h => h.elim)).tr ((mod_nd _).mono ?_)⟩
  · rw [Nat.mul_one, ← hlen]
    exact take_nd cur _ (by omega)
  · rintro k _ rfl
    simp [Value.ownBlock]

end Go.Proofs.Ytgjnfajdejkkjaa.VG
