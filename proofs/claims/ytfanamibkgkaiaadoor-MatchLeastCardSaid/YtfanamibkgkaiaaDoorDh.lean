/-
  Match: for each length the least distance.
-/
import Derived.Test.YtfanamibkgkaiaaDoorDg
namespace Go.Proofs.YtfanamibkgkaiaaDoor.VG
open Go
set_option linter.unusedSimpArgs false
set_option linter.unusedVariables false
set_option maxRecDepth 20000

theorem runF_shift (l : List Int) (a d : Nat) : ∀ f n, runF l a d f (n + 1) = runF l (a + 1) d f n + 1
  | 0, n => rfl
  | f + 1, n => by
    have e1 : a + (n + 1) = a + 1 + n := by omega
    rw [runF, runF, e1]
    by_cases h : a + 1 + n < l.length ∧ gi l (a + 1 + n) = gi l (a + 1 + n - d)
    · rw [if_pos h, if_pos h, runF_shift l a d f (n + 1)]
    · rw [if_neg h, if_neg h]
theorem runF_fuel (l : List Int) (a d : Nat) : ∀ f n, runF l a d f n = min (runF l a d (f + 1) n) (n + f)
  | 0, n => by
    have := (runF_le l a d 1 n).1
    show n = min (runF l a d 1 n) n
    omega
  | f + 1, n => by
    show (if a + n < l.length ∧ gi l (a + n) = gi l (a + n - d) then runF l a d f (n + 1) else n) = min (if a + n < l.length ∧ gi l (a + n) = gi l (a + n - d) then runF l a d (f + 1) (n + 1) else n) (n + (f + 1))
    by_cases h : a + n < l.length ∧ gi l (a + n) = gi l (a + n - d)
    · rw [if_pos h, if_pos h, runF_fuel l a d f (n + 1)]
      omega
    · rw [if_neg h, if_neg h]
      omega
theorem runI_end (l : List Int) (d : Nat) : runI l l.length d = 0 := by
  rw [runI, runF, if_neg (by omega)]
theorem runI_rec {l : List Int} {a d : Nat} (ha : a < l.length) : runI l a d = if gi l a = gi l (a - d) then min (runI l (a + 1) d + 1) 64 else 0 := by
  rw [runI, runF]
  by_cases h : gi l a = gi l (a - d)
  · rw [if_pos h, if_pos (by simpa using ⟨ha, h⟩), runF_shift, runF_fuel l (a + 1) d 63 0]
    show min (runI l (a + 1) d) (0 + 63) + 1 = _
    omega
  · rw [if_neg h, if_neg (by simpa using fun _ => h)]

theorem gi_set (l : List Int) (i j : Nat) (v : Int) (h : i < l.length) : gi (l.set i v) j = if j = i then v else gi l j := by
  by_cases hj : j = i
  · subst hj; simp [gi, h]
  · rw [if_neg hj]; simp [gi, List.getElem?_set, Ne.symm hj]
theorem intsV_put (l : List Int) (i : Nat) (v : Int) : (intsV l).set i (.int .i64 v) = intsV (l.set i v) := by simp [intsV, List.map_set]
theorem arr_put (l : List Int) (i : Nat) (v : Int) : (intsV l).toArray.setIfInBounds i (.int .i64 v) = (intsV (l.set i v)).toArray := by
  rw [← intsV_put]; simp
theorem arr_get (l : List Int) (i : Nat) (h : i < l.length) : (intsV l).toArray[i]? = some (.int .i64 (gi l i)) := by simp [intsV, gi, h]

def RunsOk (l : List Int) (a : Nat) (R : List Int) : Prop := R.length = 1025 ∧ ∀ d, 1 ≤ d → d ≤ min a 1024 → gi R d = runI l a d
/-- The runs when i distances are told anew. -/
def RunsTo (l : List Int) (a : Nat) (R : List Int) (i : Nat) : Prop := R.length = 1025 ∧ ∀ d, 1 ≤ d → d ≤ min a 1024 → gi R d = if d ≤ i then (runI l a d : Int) else runI l (a + 1) d

def fdT (l : List Int) (a : Nat) : Nat → Nat → Nat
  | 0, _ => 0
  | i + 1, n => if fdT l a i n ≠ 0 then fdT l a i n else if n ≤ runI l a (i + 1) then i + 1 else 0
theorem fdT_iff (l : List Int) (a : Nat) {n : Nat} (hn : 1 ≤ n) : ∀ i, fdT l a i n ≠ 0 ↔ n ≤ (lgT l a i).1
  | 0 => by simp [fdT, lgT]; omega
  | i + 1 => by
    have ih := fdT_iff l a hn i
    rw [fdT, lgT]
    by_cases h : fdT l a i n ≠ 0
    · rw [if_pos h]
      have := ih.1 h
      split
      · exact ⟨fun _ => by simp; omega, fun _ => h⟩
      · exact ⟨fun _ => this, fun _ => h⟩
    · rw [if_neg h]
      have hlt : (lgT l a i).1 < n := by
        rcases Nat.lt_or_ge (lgT l a i).1 n with h' | h'
        · exact h'
        · exact absurd (ih.2 h') h
      by_cases h2 : n ≤ runI l a (i + 1)
      · rw [if_pos h2, if_pos (by omega)]
        exact ⟨fun _ => h2, fun _ => by omega⟩
      · rw [if_neg h2]
        split
        · simp; omega
        · simp; omega
theorem fdT_le (l : List Int) (a n : Nat) : ∀ i, fdT l a i n ≤ i
  | 0 => by simp [fdT]
  | i + 1 => by
    have := fdT_le l a n i
    rw [fdT]
    split
    · omega
    · split <;> omega
def dsF (l : List Int) (a i g n : Nat) : Int := if n = 0 then 0 else if fdT l a i n ≠ 0 then (fdT l a i n : Int) else if n ≤ g then ((i + 1 : Nat) : Int) else 0
def dsG (l : List Int) (a i g : Nat) : List Int := (List.range 65).map (dsF l a i g)
def dsV (l : List Int) (a i n : Nat) : Int := if n = 0 then 0 else (fdT l a i n : Int)
def dsL (l : List Int) (a i : Nat) : List Int := (List.range 65).map (dsV l a i)
theorem dsG_len (l : List Int) (a i g : Nat) : (dsG l a i g).length = 65 := by simp [dsG]
theorem dsG_start (l : List Int) (a i : Nat) : dsG l a i (lgT l a i).1 = dsL l a i := by
  unfold dsG dsL
  apply List.map_congr_left
  intro n _
  unfold dsF dsV
  by_cases hn : n = 0
  · rw [if_pos hn, if_pos hn]
  · rw [if_neg hn, if_neg hn]
    have := fdT_iff l a (n := n) (by omega) i
    by_cases h : fdT l a i n ≠ 0
    · rw [if_pos h]
    · rw [if_neg h, if_neg (fun h' => h (this.2 h'))]
      have : fdT l a i n = 0 := by omega
      rw [this]; rfl
theorem dsG_end (l : List Int) (a i : Nat) : dsG l a i (runI l a (i + 1)) = dsL l a (i + 1) := by
  unfold dsG dsL
  apply List.map_congr_left
  intro n _
  unfold dsF dsV
  by_cases hn : n = 0
  · rw [if_pos hn, if_pos hn]
  · rw [if_neg hn, if_neg hn, fdT]
    split
    · rfl
    · split <;> rfl
theorem dsG_keep (l : List Int) (a i : Nat) (h : runI l a (i + 1) ≤ (lgT l a i).1) : dsL l a i = dsL l a (i + 1) := by
  unfold dsL
  apply List.map_congr_left
  intro n _
  unfold dsV
  by_cases hn : n = 0
  · rw [if_pos hn, if_pos hn]
  · rw [if_neg hn, if_neg hn, fdT]
    have := fdT_iff l a (n := n) (by omega) i
    by_cases h0 : fdT l a i n ≠ 0
    · rw [if_pos h0]
    · rw [if_neg h0, if_neg (fun h' => h0 (this.2 (by omega)))]
      have : fdT l a i n = 0 := by omega
      rw [this]
theorem dsG_step (l : List Int) (a i g : Nat) (h : (lgT l a i).1 ≤ g) (h2 : g < 64) : (dsG l a i g).set (g + 1) ((i + 1 : Nat) : Int) = dsG l a i (g + 1) := by
  unfold dsG
  apply List.ext_getElem
  · simp
  · intro j h1 h3
    simp only [List.length_map, List.length_range] at h3
    simp only [List.getElem_set, List.getElem_map, List.getElem_range]
    unfold dsF
    by_cases hj : g + 1 = j
    · subst hj
      have h0 := fdT_iff l a (n := g + 1) (by omega) i
      rw [if_pos rfl, if_neg (by omega), if_neg (fun h' => by have := h0.1 h'; omega), if_pos (Nat.le_refl _)]
    · rw [if_neg hj]
      by_cases hj0 : j = 0
      · rw [if_pos hj0, if_pos hj0]
      · rw [if_neg hj0, if_neg hj0]
        by_cases hf : fdT l a i j ≠ 0
        · rw [if_pos hf, if_pos hf]
        · rw [if_neg hf, if_neg hf]
          by_cases hg : j ≤ g
          · rw [if_pos hg, if_pos (by omega)]
          · rw [if_neg hg, if_neg (by omega)]
theorem lgT_step (l : List Int) (a i : Nat) : (lgT l a (i + 1)).1 = max (lgT l a i).1 (runI l a (i + 1)) := by
  rw [lgT]
  split
  · simp; omega
  · omega

theorem zeros_arr (n : Nat) : madeCells (Value.int .i64 0).cells (n * 1) = (intsV (List.replicate n 0)).toArray := by
  rw [← intsV_zeros]

theorem runsTo_zero {l : List Int} {a : Nat} {R : List Int} (ha : a < l.length) (h : RunsOk l (a + 1) R) : RunsTo l a R 0 :=
  ⟨h.1, fun d h1 h2 => by rw [if_neg (by omega)]; exact h.2 d h1 (by omega)⟩
theorem runsTo_end {l : List Int} {a : Nat} {R : List Int} (h : RunsTo l a R (min a 1024)) : RunsOk l a R :=
  ⟨h.1, fun d h1 h2 => by have := h.2 d h1 h2; rwa [if_pos h2] at this⟩
theorem runsTo_step {l : List Int} {a i : Nat} {R : List Int} (hi : i < min a 1024) (h : RunsTo l a R i) : RunsTo l a (R.set (i + 1) (runI l a (i + 1))) (i + 1) := by
  refine ⟨by simp [h.1], fun d h1 h2 => ?_⟩
  rw [gi_set _ _ _ _ (by rw [h.1]; omega)]
  by_cases e : d = i + 1
  · subst e
    rw [if_pos rfl, if_pos (Nat.le_refl _)]
  · rw [if_neg e, h.2 d h1 h2]
    by_cases hd : d ≤ i
    · rw [if_pos hd, if_pos (by omega)]
    · rw [if_neg hd, if_neg (by omega)]

set_option maxHeartbeats 8000000 in
theorem dists_c {G : Nat → Prop} {w : World} {v : Value} {l : List Int} {b a : Nat} {R : List Int} (hr : Rd G w v l.length (intsV l)) (hl : l.length ≤ 1000000) (hg : ¬ G b) (hb : (It.blk b (intsV R).toArray).P w (fun k => k = b)) (hR : RunsOk l (a + 1) R) (ha : a < l.length) :
    Calls Tryd.prog 31 [v, .int .i64 a, .pointer (some ⟨b, 0, none⟩)].toArray w (Ret fun r w' => r = .agg (intsV (dsL l a (min a 1024))).toArray ∧ ∃ R', RunsOk l a R' ∧ (It.blk b (intsV R').toArray).P w' (fun k => k = b) ∧ Mod (fun k => k = b) w w') := by
  refine F_sound c31 (by simp [fc31]) ?_
  obtain ⟨hS, hL⟩ := hr.sl
  have H := Hp.openG hb
  obtain ⟨i65, hi65, z65, hz65, hzc⟩ : ∃ i, Tryd.prog.info? 54 = some i ∧ ∃ z, i.zero = some z ∧ z.cells = (intsV (List.replicate 65 0)).toArray := ⟨_, rfl, _, rfl, by kernel_rfl⟩
  simp [fc31, s31]
  refine alloc_h H hi65 hz65 ?_
  intro b6 w1 H M1
  refine ⟨.inl rfl, ?_⟩
  refine alloc_h H hi65 hz65 ?_
  intro b7 w2 H M2
  refine ⟨.inl rfl, ?_⟩
  have hz0 : List.replicate 65 (0 : Int) = dsL l a 0 := by
    have : ∀ n, dsV l a 0 n = 0 := fun n => by simp [dsV, fdT]
    apply List.ext_getElem
    · simp [dsL]
    · intro j h1 h2
      rw [List.getElem_replicate]
      simp only [dsL, List.getElem_map, this]
  obtain ⟨Z, hZ⟩ : ∃ Z, Z = List.replicate 65 (0 : Int) := ⟨_, rfl⟩
  have hZl : Z.length = 65 := by rw [hZ, List.length_replicate]
  rw [← hZ] at hz0 hzc
  replace H : Hp (bare w) w2 [.blk b (intsV R).toArray, .old w (fun k => k = b), .blk b6 (intsV Z).toArray, .blk b7 (intsV (dsL l a 0)).toArray] := by
    rw [← hz0, ← hzc]; exact H
  obtain ⟨D, hD⟩ : ∃ D, D = min a 1024 := ⟨_, rfl⟩
  have hmn : (if 1024 < (a : Int) then (1024 : Int) else a) = (D : Int) := by
    by_cases h : 1024 < (a : Int)
    · rw [if_pos h]; omega
    · rw [if_neg h]; omega
  rw [← hD]
  simp
  refine for_r D (fun i env' w' => env' 0 = v ∧ env' 1 = .int .i64 a ∧ env' 2 = .pointer (some ⟨b, 0, none⟩) ∧ env' 6 = .pointer (some ⟨b6, 0, none⟩) ∧ env' 7 = .pointer (some ⟨b7, 0, none⟩) ∧ env' 8 = .int .i64 (lgT l a i).1 ∧ env' 9 = .int .i64 ((i : Int) + 1) ∧
    ∃ R', RunsTo l a R' i ∧ Hp (bare w) w' [.blk b (intsV R').toArray, .old w (fun k => k = b), .blk b6 (intsV Z).toArray, .blk b7 (intsV (dsL l a i)).toArray]) ?_ ?_ ?_
  · simp [lgT]
    exact ⟨R, runsTo_zero ha hR, H⟩
  · clear H
    rintro i env w3 hi ⟨e0, e1, e2, e6, e7, e8, e9, R', hR', H⟩
    have wi : IntKind.i64.wrap ((i : Int) + 1 + 1) = (i : Int) + 1 + 1 := wI (by omega) (by omega)
    obtain ⟨d, hd⟩ : ∃ d, d = i + 1 := ⟨_, rfl⟩
    have e9' : env 9 = .int .i64 (d : Int) := by rw [e9]; congr 1; omega
    have hRd := hR'.2 d (by omega) (by omega)
    rw [if_neg (by omega)] at hRd
    have hrec := runI_rec (d := d) ha
    have hle := runI_le l (a + 1) d
    obtain ⟨y, hy⟩ : ∃ y, y = a - d := ⟨_, rfl⟩
    have ws : IntKind.i64.wrap ((a : Int) - d) = (y : Int) := by rw [wI (by omega) (by omega)]; omega
    rw [← hy] at hrec
    simp [e1, e9, hmn]
    refine ite_r (t := true) (by simp; omega) (fun _ => ?_) (fun h => by cases h)
    replace H := H.drew
    have hsh : ∀ F', (It.blk b (intsV R').toArray).P w3.drew F' → F' = fun k => k = b := fun F' h => h.2
    have hM := (H.shutG hsh).2.1
    have hr3 := hr.mod hM (fun k hk e => hg (e ▸ hk))
    have c1 := hr3.gi a ha
    have hyl : y < l.length := by omega
    have c2 := hr3.gi y hyl
    have hp := hr.some (by omega)
    simp only [cell_drew] at c1 c2
    have hd5 : d < 1025 := by omega
    simp [wp_blk, e0, e1, e9', hS, hL, ha, hp, c1, c2, ws, hyl]
    refine ite_cut (fun env' w' => env' 0 = v ∧ env' 1 = .int .i64 a ∧ env' 2 = .pointer (some ⟨b, 0, none⟩) ∧ env' 6 = .pointer (some ⟨b6, 0, none⟩) ∧ env' 7 = .pointer (some ⟨b7, 0, none⟩) ∧ env' 8 = .int .i64 (lgT l a i).1 ∧ env' 9 = .int .i64 (d : Int) ∧
      Hp (bare w) w' [.blk b (intsV (R'.set d (runI l a d))).toArray, .old w (fun k => k = b), .blk b6 (intsV Z).toArray, .blk b7 (intsV (dsL l a i)).toArray]) (t := gi l a == gi l y) ?_ ?_ ?_ ?_
    · simp
    · intro ht
      have he : gi l a = gi l y := by simpa using ht
      rw [if_pos he] at hrec
      replace H := H.drew
      have cb := H.blk 0 rfl d
      rw [arr_get R' d (by rw [hR'.1]; exact hd5), hRd] at cb
      simp only [cell_drew] at cb
      have w1 : IntKind.i64.wrap ((runI l (a + 1) d : Int) + 1) = (runI l (a + 1) d : Int) + 1 := wI (by omega) (by omega)
      have hmin : (if 64 < (runI l (a + 1) d : Int) + 1 then (64 : Int) else (runI l (a + 1) d : Int) + 1) = (runI l a d : Int) := by
        rw [hrec]
        split <;> omega
      simp [e2, e9', cb, hd5, w1]
      refine ⟨by omega, ?_⟩
      refine st_h 0 H rfl (o := d) (v := .int .i64 (runI l a d)) (by simp [e2, e9', hd5]) (by simp [w1, hmin]) (by simp [intsV, hR'.1]; exact hd5) (by simp) ?_
      intro w4 H
      refine ⟨.inl rfl, ?_⟩
      simp only [List.set_cons_zero] at H
      rw [arr_put] at H
      simp [e0, e1, e2, e6, e7, e8, e9']
      exact H
    · intro ht
      have he : ¬ gi l a = gi l y := by simpa using ht
      rw [if_neg he] at hrec
      simp [e2, e9', hd5]
      refine ⟨by omega, ?_⟩
      refine st_h 0 H rfl (o := d) (v := .int .i64 (runI l a d)) (by simp [e2, e9', hd5]) (by simp [hrec]) (by simp [intsV, hR'.1]; exact hd5) (by simp) ?_
      intro w4 H
      refine ⟨.inl rfl, ?_⟩
      simp only [List.set_cons_zero] at H
      rw [arr_put] at H
      simp [e0, e1, e2, e6, e7, e8, e9']
      exact H
    clear H
    rintro env w5 ⟨e0, e1, e2, e6, e7, e8, e9, H⟩
    have hR2 := runsTo_step (by omega) hR'
    rw [← hd] at hR2
    have hR2l := hR2.1
    have hgr : gi (R'.set d (runI l a d)) d = (runI l a d : Int) := by rw [gi_set _ _ _ _ (by rw [hR'.1]; exact hd5), if_pos rfl]
    generalize R'.set d (runI l a d) = R2 at *
    have hlg := lgT_le l a i
    have hrun := runI_le l a d
    have hls : (lgT l a (i + 1)).1 = max (lgT l a i).1 (runI l a d) := by rw [lgT_step, hd]
    have hge : ∀ g, runI l a d ≤ g → g = (lgT l a i).1 ∨ g = runI l a d → (lgT l a i).1 ≤ g → (g = (lgT l a (i + 1)).1 ∧ dsG l a i g = dsL l a (i + 1)) := by
      intro g h1 h2 h3
      rw [hls]
      by_cases h4 : g = runI l a d
      · subst h4
        refine ⟨by omega, ?_⟩
        rw [hd, dsG_end]
      · have h5 : g = (lgT l a i).1 := by omega
        subst h5
        refine ⟨by omega, ?_⟩
        rw [dsG_start]
        exact dsG_keep l a i (by rw [← hd]; exact h1)
    refine loop_r (fun m env' w' => ∃ g : Nat, m = 65 - g ∧ (lgT l a i).1 ≤ g ∧ g ≤ 64 ∧ (g = (lgT l a i).1 ∨ g ≤ runI l a d) ∧ env' 0 = v ∧ env' 1 = .int .i64 a ∧ env' 2 = .pointer (some ⟨b, 0, none⟩) ∧ env' 6 = .pointer (some ⟨b6, 0, none⟩) ∧ env' 7 = .pointer (some ⟨b7, 0, none⟩) ∧ env' 8 = .int .i64 g ∧ env' 9 = .int .i64 d ∧
      Hp (bare w) w' [.blk b (intsV R2).toArray, .old w (fun k => k = b), .blk b6 (intsV Z).toArray, .blk b7 (intsV (dsG l a i g)).toArray]) (65 - (lgT l a i).1) ?_ ?_
    · exact ⟨(lgT l a i).1, rfl, Nat.le_refl _, hlg.1, .inl rfl, e0, e1, e2, e6, e7, e8, e9, by rw [dsG_start]; exact H⟩
    · clear H
      rintro m env w6 ⟨g, rfl, hg1, hg2, hg3, e0, e1, e2, e6, e7, e8, e9, H⟩
      have cb := H.blk 0 rfl d
      rw [arr_get R2 d (by rw [hR2l]; exact hd5), hgr] at cb
      by_cases hlt : g < runI l a d
      · have wg : IntKind.i64.wrap ((g : Int) + 1) = ((g + 1 : Nat) : Int) := by rw [wI (by omega) (by omega)]; omega
        have hg65 : g + 1 < 65 := by omega
        have hg65' : ((g + 1 : Nat) : Int) < 65 := by omega
        simp [e2, e8, e9, cb, hd5]
        refine ⟨by omega, ?_⟩
        refine ite_r (t := true) (by simp [hlt]) (fun _ => ?_) (fun h => by cases h)
        simp [-Int.natCast_add, wp_blk, e7, e8, wg, hg65]
        refine ⟨hg65', ?_⟩
        refine st_h 3 H rfl (o := g + 1) (v := .int .i64 d) (by simp [-Int.natCast_add, e7, hg65]) (by simp [e9]) (by simp [intsV, dsG_len]; omega) (by simp) ?_
        intro w7 H
        refine ⟨.inl rfl, ?_⟩
        simp only [List.set_cons_succ, List.set_cons_zero] at H
        rw [arr_put, hd, dsG_step l a i g hg1 (by omega)] at H
        simp
        refine ⟨65 - (g + 1), by omega, g + 1, rfl, by omega, by omega, .inr hlt, ?_⟩
        simp [-Int.natCast_add, e0, e1, e2, e6, e7, e9]
        first | exact H | exact ⟨by omega, H⟩
      · obtain ⟨h1, h2⟩ := hge g (by omega) (by omega) hg1
        rw [h2] at H
        have wi : IntKind.i64.wrap ((d : Int) + 1) = (i : Int) + 1 + 1 := by rw [wI (by omega) (by omega)]; omega
        simp [e2, e8, e9, cb, hd5]
        refine ⟨by omega, ?_⟩
        refine ite_r (t := false) (by simp; omega) (fun h => by cases h) (fun _ => ?_)
        simp [e0, e1, e2, e6, e7, e8, e9, wi, ← h1]
        exact ⟨R2, by rw [← hd]; exact hR2, H⟩
  · clear H
    rintro env w3 ⟨e0, e1, e2, e6, e7, e8, e9, R', hR', H⟩
    have hcs := cells_blk (H.blk 3 rfl) 65 (by simp [intsV, dsL])
    have hok : ∀ j, j < 65 → (w3.cell? ⟨b7, j, none⟩).isSome = true := fun j hj => by rw [H.blk 3 rfl j]; simp [intsV, dsL, hj]
    simp [e1, e9, hmn]
    refine ite_r (t := false) (by simp; omega) (fun h => by cases h) (fun _ => ?_)
    simp [e7, hcs]
    refine ⟨hok, ?_⟩
    refine stAll_h 2 H rfl (v := .agg (intsV (dsL l a D)).toArray) (by simp [e6]) (by simp) (by simp [Value.cells, intsV, dsL]) (by simp [intsV, hZl]) (by intro x hx; simp only [Value.cells] at hx; have := intsV_one (dsL l a D) x (by simpa using hx); simp only [intsV, List.mem_toArray, List.mem_map] at hx; obtain ⟨q, _, rfl⟩ := (by simpa [intsV] using hx : ∃ q, q ∈ dsL l a D ∧ Value.int .i64 q = x); rfl) ?_
    intro w4 H
    refine ⟨.inl rfl, ?_⟩
    have hcs := cells_blk (H.blk 2 rfl) 65 (by simp [Value.cells, intsV, dsL])
    have hok : ∀ j, j < 65 → (w4.cell? ⟨b6, j, none⟩).isSome = true := fun j hj => by rw [H.blk 2 rfl j]; simp [Value.cells, intsV, dsL, hj]
    have hsh : ∀ F', (It.blk b (intsV R').toArray).P w4 F' → F' = fun k => k = b := fun F' h => h.2
    obtain ⟨q1, q2, _⟩ := H.shutG hsh
    simp [e6, hcs]
    exact ⟨hok, rfl, R', runsTo_end (by rw [← hD]; exact hR'), q1, q2⟩

end Go.Proofs.YtfanamibkgkaiaaDoor.VG
