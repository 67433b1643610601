/-
  The library's stable sort: a block by insertion; what the searches tell.
-/
import Derived.Test.YtgjnfajdejkkjaaWc
namespace Go.Proofs.Ytgjnfajdejkkjaa.VG
open Go
set_option linter.unusedSimpArgs false
set_option linter.unusedVariables false
set_option maxRecDepth 20000

theorem gnn_in (A Y B : List Nat) {t : Nat} (h : t < Y.length) : gnn (A ++ (Y ++ B)) (A.length + t) = gnn Y t := by
  unfold gnn
  rw [List.getD_eq_getElem?_getD, List.getD_eq_getElem?_getD, List.getElem?_append_right (by omega), Nat.add_sub_cancel_left, List.getElem?_append_left h]
theorem asc_ix {f : Nat → Int} {l : List Nat} (h : Asc f l) {i j : Nat} (hij : i ≤ j) (hj : j < l.length) : f (gnn l i) ≤ f (gnn l j) := by
  rcases Nat.lt_or_ge i j with h1 | h1
  · have := List.pairwise_iff_getElem.1 h i j (by omega) hj h1
    rwa [gnn_get (by omega), gnn_get hj] at this
  · obtain rfl : i = j := by omega
    omega
theorem take_ix {l : List Nat} {s x : Nat} (h : x ∈ l.take s) : ∃ i, i < s ∧ i < l.length ∧ x = gnn l i := by
  obtain ⟨i, hi, e⟩ := List.mem_iff_getElem.1 h
  rw [List.length_take] at hi
  refine ⟨i, by omega, by omega, ?_⟩
  rw [← gnn_get (by omega : i < l.length), ← e, List.getElem_take]
theorem drop_ix {l : List Nat} {s x : Nat} (h : x ∈ l.drop s) : ∃ i, s ≤ i ∧ i < l.length ∧ x = gnn l i := by
  obtain ⟨i, hi, e⟩ := List.mem_iff_getElem.1 h
  rw [List.length_drop] at hi
  refine ⟨s + i, by omega, by omega, ?_⟩
  rw [← gnn_get (by omega : s + i < l.length), ← e, List.getElem_drop]
theorem asc_take {f : Nat → Int} {l : List Nat} (h : Asc f l) (s : Nat) : Asc f (l.take s) := h.sublist (List.take_sublist _ _)
theorem asc_drop {f : Nat → Int} {l : List Nat} (h : Asc f l) (s : Nat) : Asc f (l.drop s) := h.sublist (List.drop_sublist _ _)

theorem mrg_one_l {f : Nat → Int} {x s : Nat} {Y : List Nat} (hY : Asc f Y) (h1 : s = 0 ∨ f (gnn Y (s - 1)) < f x) (h2 : s = Y.length ∨ f x ≤ f (gnn Y s)) (hs : s ≤ Y.length) : mrg f [x] Y = Y.take s ++ x :: Y.drop s := by
  have e := mrg_split f [x] (Y.drop s) _ [] (Y.take s) rfl (by simp) (fun y hy z hz => by
    obtain ⟨i, i1, i2, rfl⟩ := take_ix hy
    simp only [List.mem_singleton] at hz
    subst hz
    have := asc_ix hY (i := i) (j := s - 1) (by omega) (by omega)
    omega)
  rw [List.take_append_drop, List.nil_append, mrg_nil'] at e
  rw [e]
  congr 1
  cases hd : Y.drop s with
  | nil => rw [mrg_nil]
  | cons y r =>
    have hsl : s < Y.length := by
      rcases Nat.lt_or_ge s Y.length with h | h
      · exact h
      · rw [List.drop_eq_nil_of_le h] at hd; cases hd
    rw [List.drop_eq_getElem_cons hsl, gnn_get hsl] at hd
    injection hd with a b
    rw [mrg_l (by rw [← a]; omega), mrg_nil']
theorem mrg_one_r {f : Nat → Int} {y s : Nat} {X : List Nat} (hX : Asc f X) (h1 : s = 0 ∨ f (gnn X (s - 1)) ≤ f y) (h2 : s = X.length ∨ f y < f (gnn X s)) (hs : s ≤ X.length) : mrg f X [y] = X.take s ++ y :: X.drop s := by
  have e := mrg_split f (X.drop s) [y] _ (X.take s) [] rfl (fun z hz w hw => by
    obtain ⟨i, i1, i2, rfl⟩ := take_ix hz
    simp only [List.mem_singleton] at hw
    subst hw
    have := asc_ix hX (i := i) (j := s - 1) (by omega) (by omega)
    omega) (by simp)
  rw [List.take_append_drop, List.nil_append, mrg_nil] at e
  rw [e]
  congr 1
  cases hd : X.drop s with
  | nil => rw [mrg_nil']
  | cons z r =>
    have hsl : s < X.length := by
      rcases Nat.lt_or_ge s X.length with h | h
      · exact h
      · rw [List.drop_eq_nil_of_le h] at hd; cases hd
    rw [List.drop_eq_getElem_cons hsl, gnn_get hsl] at hd
    injection hd with a b
    rw [mrg_r (by rw [← a]; omega), mrg_nil]

section
variable {W w : World} {T : List Nd} {lb sb : Array Value} {sf g n : Nat}

set_option maxHeartbeats 4000000 in
theorem insS_c (C : SC W T lb sb sf g n) {A X B : List Nat} (H : SRw W T g n (A ++ (X ++ B)) w) {a b : Nat} (ha : a = A.length) (hb : b = A.length + X.length) :
    Calls Try.prog 68 [dat lb sb sf, .int .i64 a, .int .i64 b].toArray w (Ret fun r w' => r = .tuple #[] ∧ SRw W T g n (A ++ (srt (ltW T) X ++ B)) w' ∧ Mod (fun k => k = g) w w') := by
  refine F_sound c68 (by simp [fc68]) ?_
  have hlen : A.length + (X.length + B.length) = n := by simpa using H.2
  have hsm := C.small
  have hne : w.heap.size ≠ g := by have := H.ge C; omega
  simp [fc68, s68]
  refine boxW_r (dat lb sb sf) (by simp) ?_
  intro hh M1
  have H1 := H.alloc (.cells (dat lb sb sf).cells 101)
  have D1 := DCell.mk' hh
  generalize w.alloc (.cells (dat lb sb sf).cells 101) = w1 at *
  generalize w.heap.size = q at *
  have wa : IntKind.i64.wrap ((a : Int) + 1) = ((a + 1 : Nat) : Int) := by rw [wI (by omega) (by omega)]; omega
  simp [wa, -Int.natCast_add]
  refine loop_r (fun z env' w' => env' 1 = .int .i64 a ∧ env' 2 = .int .i64 b ∧ env' 3 = .pointer (some ⟨q, 0, none⟩) ∧ ∃ X1 X2 i, z = X.length + 1 - X1.length ∧ i = A.length + X1.length ∧ env' 6 = .int .i64 (i : Nat) ∧ (X = X1 ++ X2 ∨ X = [] ∧ X2 = [] ∧ X1.length = 1) ∧ 0 < X1.length ∧
    SRw W T g n (A ++ ((if X = [] then [] else srt (ltW T) X1) ++ (X2 ++ B))) w' ∧ Mod (fun k => k = g) w1 w') X.length ?_ ?_
  · refine ⟨by simp, by simp, by simp, ?_⟩
    rcases X with _ | ⟨x, r⟩
    · exact ⟨[0], [], a + 1, by simp, by simp [ha], by simp, .inr ⟨rfl, rfl, rfl⟩, by simp, by simpa using H1, Mod.refl _ _⟩
    · exact ⟨[x], r, a + 1, by simp, by simp [ha], by simp, .inl rfl, by simp, by simpa [srt, insL, insV] using H1, Mod.refl _ _⟩
  · rintro z env w2 ⟨e1, e2, e3, X1, X2, i, rfl, rfl, e6, hX, hX1, H, MM⟩
    have hxb : X1.length ≤ X.length + 1 := by
      rcases hX with rfl | ⟨h1, h2, h3⟩
      · simp; omega
      · omega
    have wi : IntKind.i64.wrap (((A.length + X1.length : Nat) : Int) + 1) = ((A.length + (X1.length + 1) : Nat) : Int) := by rw [wI (by omega) (by omega)]; omega
    have hxe : X2 = [] → X.length ≤ X1.length := by
      rintro rfl
      rcases hX with rfl | ⟨rfl, h2, h3⟩
      · simp
      · simp
    rcases X2 with _ | ⟨y, X2⟩
    · simp [e2, e6, -Int.natCast_add]
      have hxe := hxe rfl
      refine ite_r (t := false) (by simp; omega) (fun h => by cases h) (fun _ => ?_)
      simp
      refine ⟨?_, (M1.mono fun _ _ h => h.elim).tr MM⟩
      rcases hX with rfl | ⟨rfl, _, _⟩
      · rw [List.append_nil] at *
        rw [if_neg (by intro h; rw [h] at hX1; simp at hX1)] at H
        simpa using H
      · simpa [srt] using H
    · have hXe : X = X1 ++ y :: X2 := by rcases hX with h | ⟨_, h, _⟩; exact h; cases h
      subst hXe
      rw [if_neg (by simp)] at H
      rw [List.length_append, List.length_cons] at hlen hb
      simp [e2, e6, -Int.natCast_add]
      refine ite_r (t := true) (by simp; omega) (fun _ => ?_) (fun h => by cases h)
      show S.wp _ (S.blk 1 _ _) _ _ _
      rw [wp_blk]
      simp [e6, -Int.natCast_add]
      refine loop_w (fun z env' w' => env' 1 = .int .i64 a ∧ env' 2 = .int .i64 b ∧ env' 3 = .pointer (some ⟨q, 0, none⟩) ∧ env' 6 = .int .i64 (A.length + X1.length : Nat) ∧ ∃ L R, z = L.length ∧ env' 7 = .int .i64 (A.length + L.length : Nat) ∧ insL (ltW T) y L ++ R = srt (ltW T) (X1 ++ [y]) ∧ L.length + R.length = X1.length ∧
        SRw W T g n (A ++ (L ++ (y :: (R ++ (X2 ++ B))))) w' ∧ Mod (fun k => k = g) w1 w') X1.length
        (fun env' w' => env' 1 = .int .i64 a ∧ env' 2 = .int .i64 b ∧ env' 3 = .pointer (some ⟨q, 0, none⟩) ∧ env' 6 = .int .i64 (A.length + X1.length : Nat) ∧ SRw W T g n (A ++ (srt (ltW T) (X1 ++ [y]) ++ (X2 ++ B))) w' ∧ Mod (fun k => k = g) w1 w') ?_ ?_ ?_
      · exact ⟨by simp [e1], by simp [e2], by simp [e3], by simp [e6, -Int.natCast_add], srt (ltW T) X1, [], by rw [srt_length], by simp [srt_length, -Int.natCast_add], by rw [srt_snoc]; simp, by simp [srt_length], by simpa using H, MM⟩
      · rintro z env w3 ⟨e1, e2, e3, e6, L, R, rfl, e7, hI, hLR, H, MM⟩
        obtain ⟨D0, D2⟩ := D1.mod MM hne
        rcases List.eq_nil_or_concat L with rfl | ⟨L', u, rfl⟩
        · simp [e1, e3, e7, D0, D2, -Int.natCast_add]
          refine ifg_r (t := false) (by simp; omega) (fun h => by cases h) (fun _ => ?_)
          simp [e1, e7, -Int.natCast_add]
          refine ite_r (t := false) (by simp; omega) (fun h => by cases h) (fun _ => ?_)
          simp [e1, e2, e3, e6, -Int.natCast_add]
          refine ⟨?_, MM⟩
          rw [← hI]
          simpa [insL, insV] using H
        · rw [List.concat_eq_append] at *
          rw [List.length_append, List.length_singleton] at e7 hLR
          have wj : IntKind.i64.wrap (((A.length + (L'.length + 1) : Nat) : Int) - 1) = ((A.length + L'.length : Nat) : Int) := by rw [wI (by omega) (by omega)]; omega
          have hy : gnn (A ++ (L' ++ [u] ++ (y :: (R ++ (X2 ++ B))))) (A.length + (L'.length + 1)) = y := by
            have := gnn_app (A ++ (L' ++ [u])) y (R ++ (X2 ++ B))
            simpa using this
          have hu : gnn (A ++ (L' ++ [u] ++ (y :: (R ++ (X2 ++ B))))) (A.length + L'.length) = u := by
            have := gnn_app (A ++ L') u (y :: (R ++ (X2 ++ B)))
            simpa using this
          simp [e1, e3, e7, D0, D2, wj, -Int.natCast_add]
          refine ifg_r (t := true) (by simp; omega) (fun _ => ?_) (fun h => (h rfl).elim)
          refine less_r C H (A.length + (L'.length + 1)) (A.length + L'.length) (by omega) (by omega) (by simp; intros; exfalso; omega) (by simp [e7, -Int.natCast_add]) (by simp [e7, wj, -Int.natCast_add]) ?_
          intro w4 H4 M4
          rw [hy, hu]
          obtain ⟨D0, D2⟩ := (D1.mod MM hne).mod (M4.mono fun _ _ h => h.elim) hne
          have MM4 := MM.tr (M4.mono fun _ _ h => h.elim)
          rw [insL_snoc] at hI
          simp [e1, e3, e7, D0, D2, wj, -Int.natCast_add]
          by_cases hlt : ltW T y u = true
          · rw [if_pos hlt] at hI
            refine ite_r (t := true) (by simp [hlt]; omega) (fun _ => ?_) (fun h => by cases h)
            simp [wp_blk, e1, e3, e7, D0, D2, wj, -Int.natCast_add]
            refine swap_r C H4 (A.length + (L'.length + 1)) (A.length + L'.length) (by omega) (by omega) (by simp) (by simp [e7, -Int.natCast_add]) (by simp [e7, wj, -Int.natCast_add]) ?_
            intro w5 H5 M5
            have hs := (swapL_app (A ++ L') u [] y (R ++ (X2 ++ B))).2
            rw [List.length_append, List.length_nil, show A.length + L'.length + 1 + 0 = A.length + (L'.length + 1) by omega] at hs
            simp only [List.nil_append] at hs
            rw [show A ++ (L' ++ [u] ++ (y :: (R ++ (X2 ++ B)))) = A ++ L' ++ u :: y :: (R ++ (X2 ++ B)) by simp, hs] at H5
            simp [e7, wj, -Int.natCast_add]
            refine ⟨L'.length, by omega, by simp [e1], by simp [e2], by simp [e3], by simp [e6, -Int.natCast_add], L', rfl, by simp [-Int.natCast_add], u :: R, by simpa using hI, by simp; omega, by simpa using H5, MM4.tr M5⟩
          · rw [if_neg hlt] at hI
            refine ite_r (t := false) (by simp [hlt]) (fun h => by cases h) (fun _ => ?_)
            simp [e1, e2, e3, e6, -Int.natCast_add]
            refine ⟨?_, MM4⟩
            rw [← hI]
            simpa using H4
      · rintro env w3 ⟨e1, e2, e3, e6, H, MM⟩
        simp [e6, wi, -Int.natCast_add]
        exact ⟨X1.length + (X2.length + 1) + 1 - (X1 ++ [y]).length, by simp; omega, by simp [e1], by simp [e2], by simp [e3], X1 ++ [y], rfl, by simp [-Int.natCast_add], X2, by simp, by simp, by simpa using H, MM⟩
end

end Go.Proofs.Ytgjnfajdejkkjaa.VG
