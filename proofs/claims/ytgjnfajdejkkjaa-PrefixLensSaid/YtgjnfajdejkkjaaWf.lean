/-
  The library's stable sort is the insertion's order, whatever the length.
-/
import Derived.Test.YtgjnfajdejkkjaaWe
namespace Go.Proofs.Ytgjnfajdejkkjaa.VG
open Go
set_option linter.unusedSimpArgs false
set_option linter.unusedVariables false
set_option maxRecDepth 20000

/-- Blocks of s, each in order. -/
inductive Blk (lt : Nat → Nat → Bool) (s : Nat) : List Nat → List Nat → Prop where
  | last {l : List Nat} : l.length ≤ s → Blk lt s l (srt lt l)
  | cons {X R D : List Nat} : X.length = s → Blk lt s R D → Blk lt s (X ++ R) (srt lt X ++ D)
/-- Blocks ahead, whatever follows. -/
def PreB (lt : Nat → Nat → Bool) (s : Nat) (L D : List Nat) : Prop := L.length = D.length ∧ ∀ R E, Blk lt s R E → Blk lt s (L ++ R) (D ++ E)
theorem PreB.nil (lt : Nat → Nat → Bool) (s : Nat) : PreB lt s [] [] := ⟨rfl, fun _ _ h => h⟩
theorem PreB.snoc {lt : Nat → Nat → Bool} {s : Nat} {L D X : List Nat} (h : PreB lt s L D) (hX : X.length = s) : PreB lt s (L ++ X) (D ++ srt lt X) := ⟨by simp [h.1, srt_length], fun R E hR => by
  rw [List.append_assoc, List.append_assoc]
  exact h.2 _ _ (.cons hX hR)⟩
theorem srt_nil (lt : Nat → Nat → Bool) : srt lt [] = [] := rfl
theorem blk_len {lt : Nat → Nat → Bool} {s : Nat} {l d : List Nat} (h : Blk lt s l d) : d.length = l.length := by
  induction h with
  | last h => exact srt_length _ _
  | cons hX hR ih => simp [ih, srt_length]
theorem blk_done {lt : Nat → Nat → Bool} {s : Nat} {l d : List Nat} (h : Blk lt s l d) (h0 : 0 < s) (hl : l.length ≤ s) : d = srt lt l := by
  cases h with
  | last _ => rfl
  | cons hX hR =>
    rename_i X R D
    rw [List.length_append] at hl
    obtain rfl := List.length_eq_zero_iff.1 (show R.length = 0 by omega)
    have := blk_len hR
    obtain rfl := List.length_eq_zero_iff.1 (show D.length = 0 by simpa using this)
    simp
theorem blk_mid {lt : Nat → Nat → Bool} {s : Nat} {l d : List Nat} (h : Blk lt s l d) (h1 : s < l.length) (h2 : l.length < 2 * s) : ∃ X R, l = X ++ R ∧ X.length = s ∧ 0 < R.length ∧ d = srt lt X ++ srt lt R := by
  cases h with
  | last h => omega
  | cons hX hR =>
    rename_i X R D
    rw [List.length_append] at h1 h2
    exact ⟨X, R, rfl, hX, by omega, by rw [blk_done hR (by omega) (by omega)]⟩
theorem blk_two {lt : Nat → Nat → Bool} {s : Nat} {l d : List Nat} (h : Blk lt s l d) (h0 : 0 < s) (h2 : 2 * s ≤ l.length) : ∃ X Y R D, l = X ++ (Y ++ R) ∧ X.length = s ∧ Y.length = s ∧ d = srt lt X ++ (srt lt Y ++ D) ∧ Blk lt s R D := by
  cases h with
  | last h => omega
  | cons hX hR =>
    rename_i X R D
    rw [List.length_append] at h2
    cases hR with
    | last h => exact ⟨X, R, [], [], by simp, hX, by omega, by simp, .last (by simp)⟩
    | cons hY hR' => rename_i Y R' D'; exact ⟨X, Y, R', D', rfl, hX, hY, rfl, hR'⟩
section
variable {W w : World} {T : List Nd} {lb sb : Array Value} {sf g n : Nat}

set_option maxHeartbeats 8000000 in
theorem stabF_c (C : SC W T lb sb sf g n) {l : List Nat} (H : SRw W T g n l w) :
    Calls Try.prog 57 [dat lb sb sf, .int .i64 n].toArray w (Ret fun r w' => r = .tuple #[] ∧ SRw W T g n (srt (ltW T) l) w' ∧ Mod (fun k => k = g) w w') := by
  refine F_sound c57 (by simp [fc57]) ?_
  have hlen : l.length = n := H.2
  have hsm := C.small
  have hne : w.heap.size ≠ g := by have := H.ge C; omega
  have hlt : ∀ x y, ltW T x y = decide (wtF T x < wtF T y) := fun _ _ => rfl
  simp [fc57, s57]
  refine boxW_r (dat lb sb sf) (by simp) ?_
  intro hh M1
  have H1 := H.alloc (.cells (dat lb sb sf).cells 101)
  have D1 := DCell.mk' hh
  generalize w.alloc (.cells (dat lb sb sf).cells 101) = w1 at *
  generalize w.heap.size = q at *
  simp
  -- the blocks
  refine loop_w (fun z env' w' => env' 1 = .int .i64 n ∧ env' 2 = .pointer (some ⟨q, 0, none⟩) ∧ env' 4 = .int .i64 20 ∧ ∃ L R D, z = R.length ∧ l = L ++ R ∧ env' 5 = .int .i64 L.length ∧ env' 6 = .int .i64 (L.length + 20 : Nat) ∧ PreB (ltW T) 20 L D ∧ SRw W T g n (D ++ R) w' ∧ Mod (fun k => k = g) w1 w') n
    (fun env' w' => env' 1 = .int .i64 n ∧ env' 2 = .pointer (some ⟨q, 0, none⟩) ∧ env' 4 = .int .i64 20 ∧ ∃ L R D, l = L ++ R ∧ R.length < 20 ∧ env' 5 = .int .i64 L.length ∧ PreB (ltW T) 20 L D ∧ SRw W T g n (D ++ R) w' ∧ Mod (fun k => k = g) w1 w') ?_ ?_ ?_
  · exact ⟨by simp, by simp, by simp, [], l, [], hlen.symm, rfl, by simp, by simp, PreB.nil _ _, H1, Mod.refl _ _⟩
  · rintro z env w2 ⟨e1, e2, e4, L, R, D, rfl, rfl, e5, e6, hP, H, MM⟩
    rw [List.length_append] at hlen
    simp [e1, e6, -Int.natCast_add]
    by_cases hR : 20 ≤ R.length
    · obtain ⟨X, R, rfl, hX⟩ : ∃ X R', R = X ++ R' ∧ X.length = 20 := ⟨R.take 20, R.drop 20, (List.take_append_drop _ _).symm, by simp; omega⟩
      rw [List.length_append] at hlen
      have w6 : IntKind.i64.wrap (((L.length + 20 : Nat) : Int) + 20) = ((L.length + 20 + 20 : Nat) : Int) := by rw [wI (by omega) (by omega)]; omega
      obtain ⟨DA, DB⟩ := (D1.mod MM hne).ld
      refine ite_r (t := true) (by simp; omega) (fun _ => ?_) (fun h => by cases h)
      simp [wp_blk, e2, DB, -Int.natCast_add]
      refine ⟨DA, ?_⟩
      refine call_h (insS_c C (A := D) (X := X) (B := R) H (a := L.length) (b := L.length + 20) hP.1 (by have := hP.1; omega)) (by simp [e5, e6, dat, -Int.natCast_add]) ?_
      rintro r w3 ⟨rfl, H3, M3⟩
      simp [e4, e6, w6, -Int.natCast_add]
      refine ⟨R.length, by omega, by simp [e1], by simp [e2], L ++ X, R, rfl, by simp, by simp [hX], by simp [hX], D ++ srt (ltW T) X, hP.snoc hX, by simpa using H3, MM.tr M3⟩
    · refine ite_r (t := false) (by simp; omega) (fun h => by cases h) (fun _ => ?_)
      simp [e1, e2, e4, e5]
      exact ⟨L, R, rfl, by omega, rfl, D, hP, H, MM⟩
  · rintro env w2 ⟨e1, e2, e4, L, R, D, rfl, hR, e5, hP, H, MM⟩
    rw [List.length_append] at hlen
    obtain ⟨DA, DB⟩ := (D1.mod MM hne).ld
    simp [e2, DB]
    refine ⟨DA, ?_⟩
    refine call_h (insS_c C (A := D) (X := R) (B := []) (by simpa using H) (a := L.length) (b := n) hP.1 (by have := hP.1; omega)) (by simp [e1, e5, dat]) ?_
    rintro r w3 ⟨rfl, H3, M3⟩
    have hB := hP.2 _ _ (.last (by omega : R.length ≤ 20))
    rw [List.append_nil] at H3
    replace MM := MM.tr M3
    rw [← List.length_append] at hlen
    generalize hl : L ++ R = l at *
    generalize D ++ srt (ltW T) R = d0 at *
    simp
    -- the passes
    refine loop_r (fun z env' w' => env' 1 = .int .i64 n ∧ env' 2 = .pointer (some ⟨q, 0, none⟩) ∧ ∃ s d, z = n - s ∧ 0 < s ∧ (s < n → s < 2305843009213693952) ∧ s < 4611686018427387904 ∧ env' 4 = .int .i64 (s : Nat) ∧ Blk (ltW T) s l d ∧ SRw W T g n d w' ∧ Mod (fun k => k = g) w1 w') (n - 20) ?_ ?_
    · exact ⟨by simp [e1], by simp [e2], 20, d0, rfl, by omega, by omega, by omega, by simp [e4], hB, H3, MM⟩
    · rintro z env w4 ⟨e1, e2, s, d, rfl, hs0, hs1, hs2, e4, hB, H, MM⟩
      simp [e1, e4]
      by_cases hsn : s < n
      · have hs1 := hs1 hsn
        have w2s : IntKind.i64.wrap (2 * (s : Int)) = ((2 * s : Nat) : Int) := by rw [wI (by omega) (by omega)]; omega
        have ws2 : IntKind.i64.wrap ((s : Int) * 2) = ((2 * s : Nat) : Int) := by rw [wI (by omega) (by omega)]; omega
        refine ite_r (t := true) (by simp; omega) (fun _ => ?_) (fun h => by cases h)
        show S.wp _ (S.blk 3 _ _) _ _ _
        rw [wp_blk]
        simp [e4, w2s, -Int.natCast_mul]
        refine loop_w (fun z env' w' => env' 1 = .int .i64 n ∧ env' 2 = .pointer (some ⟨q, 0, none⟩) ∧ env' 4 = .int .i64 (s : Nat) ∧ ∃ L R D E, z = R.length ∧ l = L ++ R ∧ env' 5 = .int .i64 L.length ∧ env' 6 = .int .i64 (L.length + 2 * s : Nat) ∧ PreB (ltW T) (2 * s) L D ∧ Blk (ltW T) s R E ∧ SRw W T g n (D ++ E) w' ∧ Mod (fun k => k = g) w1 w') n
          (fun env' w' => env' 1 = .int .i64 n ∧ env' 2 = .pointer (some ⟨q, 0, none⟩) ∧ env' 4 = .int .i64 (s : Nat) ∧ ∃ L R D E, l = L ++ R ∧ R.length < 2 * s ∧ env' 5 = .int .i64 L.length ∧ PreB (ltW T) (2 * s) L D ∧ Blk (ltW T) s R E ∧ SRw W T g n (D ++ E) w' ∧ Mod (fun k => k = g) w1 w') ?_ ?_ ?_
        · exact ⟨by simp [e1], by simp [e2], by simp [e4], [], l, [], d, hlen.symm, rfl, by simp, by simp, PreB.nil _ _, hB, H, MM⟩
        · rintro z env w5 ⟨e1, e2, e4, L, R, D, E, rfl, hlR, e5, e6, hP, hB, H, MM⟩
          have hlR' := congrArg List.length hlR
          rw [List.length_append] at hlR'
          simp [e1, e6, -Int.natCast_add, -Int.natCast_mul]
          by_cases hR : 2 * s ≤ R.length
          · obtain ⟨X, Y, R', E', rfl, hX, hY, rfl, hB'⟩ := blk_two hB hs0 hR
            rw [List.length_append, List.length_append] at hlR'
            have w5' : IntKind.i64.wrap ((L.length : Int) + s) = ((L.length + s : Nat) : Int) := by rw [wI (by omega) (by omega)]; omega
            have w6' : IntKind.i64.wrap (((L.length + 2 * s : Nat) : Int) + ((2 * s : Nat) : Int)) = ((L.length + 2 * s + 2 * s : Nat) : Int) := by rw [wI (by omega) (by omega)]; omega
            obtain ⟨DA, DB⟩ := (D1.mod MM hne).ld
            refine ite_r (t := true) (by simp; omega) (fun _ => ?_) (fun h => by cases h)
            simp [wp_blk, e2, e4, e5, w5', DB, -Int.natCast_add, -Int.natCast_mul]
            refine ⟨DA, ?_⟩
            have hP1 := hP.1
            refine call_h (symM_c C (X.length + Y.length) (A := D) (X := srt (ltW T) X) (Y := srt (ltW T) Y) (B := E') (by simp [srt_length]) (by rw [srt_length]; omega) (by rw [srt_length]; omega) (srt_asc hlt X) (srt_asc hlt Y) (by simpa using H) (a := L.length) (m := L.length + s) (b := L.length + 2 * s) hP1 (by rw [srt_length]; omega) (by rw [srt_length, srt_length]; omega)) (by simp [e4, e5, e6, w5', dat, -Int.natCast_add, -Int.natCast_mul]) ?_
            rintro r w6 ⟨rfl, H6, M6⟩
            rw [mrg_srt hlt] at H6
            simp [e4, e6, w2s, w6', -Int.natCast_add, -Int.natCast_mul]
            refine ⟨R'.length, by omega, by simp [e1], by simp [e2], L ++ (X ++ Y), R', rfl, by simp [hlR], by simp [hX, hY, -Int.natCast_add]; omega, by simp [hX, hY, -Int.natCast_add]; omega, D ++ srt (ltW T) (X ++ Y), hP.snoc (by simp [hX, hY]; omega), E', hB', by simpa using H6, MM.tr M6⟩
          · refine ite_r (t := false) (by simp; omega) (fun h => by cases h) (fun _ => ?_)
            simp [e1, e2, e4, e5]
            exact ⟨L, R, hlR, by omega, rfl, D, hP, E, hB, H, MM⟩
        · rintro env w5 ⟨e1, e2, e4, L, R, D, E, hlR, hR, e5, hP, hB, H, MM⟩
          have hlR' := congrArg List.length hlR
          rw [List.length_append] at hlR'
          have w5' : IntKind.i64.wrap ((L.length : Int) + s) = ((L.length + s : Nat) : Int) := by rw [wI (by omega) (by omega)]; omega
          have hP1 := hP.1
          simp [e1, e4, e5, w5', -Int.natCast_add]
          refine ite_cut (t := decide (s < R.length)) (fun env' w' => env' 1 = .int .i64 n ∧ env' 2 = .pointer (some ⟨q, 0, none⟩) ∧ env' 4 = .int .i64 (s : Nat) ∧ SRw W T g n (D ++ srt (ltW T) R) w' ∧ Mod (fun k => k = g) w1 w') ?_ ?_ ?_ ?_
          · simp; omega
          · intro hc
            have hc : s < R.length := by simpa using hc
            obtain ⟨X, Y, rfl, hX, hY, rfl⟩ := blk_mid hB hc hR
            rw [List.length_append] at hlR'
            obtain ⟨DA, DB⟩ := (D1.mod MM hne).ld
            simp [e2, DB, -Int.natCast_add]
            refine ⟨DA, ?_⟩
            refine call_h (symM_c C (X.length + Y.length) (A := D) (X := srt (ltW T) X) (Y := srt (ltW T) Y) (B := []) (by simp [srt_length]) (by rw [srt_length]; omega) (by rw [srt_length]; omega) (srt_asc hlt X) (srt_asc hlt Y) (by simpa using H) (a := L.length) (m := L.length + s) (b := n) hP1 (by rw [srt_length]; omega) (by rw [srt_length, srt_length]; omega)) (by simp [e1, e5, w5', dat, -Int.natCast_add]) ?_
            rintro r w6 ⟨rfl, H6, M6⟩
            rw [mrg_srt hlt, List.append_nil] at H6
            simp [-Int.natCast_add]
            exact ⟨by simp [e1], by simp [e2], by simp [e4], H6, MM.tr M6⟩
          · intro hc
            have hc : ¬ s < R.length := by simpa using hc
            simp [-Int.natCast_add]
            exact ⟨by simp [e1], by simp [e2], by simp [e4], by rw [← blk_done hB hs0 (by omega)]; exact H, MM⟩
          · rintro env w6 ⟨e1, e2, e4, H, MM⟩
            simp [e4, ws2, -Int.natCast_mul]
            have hB2 := hP.2 _ _ (.last (by omega : R.length ≤ 2 * s))
            rw [← hlR] at hB2
            exact ⟨n - 2 * s, by omega, by simp [e1], by simp [e2], 2 * s, rfl, by omega, by omega, by omega, rfl, _, hB2, H, MM⟩
      · refine ite_r (t := false) (by simp; omega) (fun h => by cases h) (fun _ => ?_)
        simp
        rw [← blk_done hB hs0 (by omega)]
        exact ⟨H, (M1.mono fun _ _ h => h.elim).tr MM⟩
end

end Go.Proofs.Ytgjnfajdejkkjaa.VG
