/-
  Match: runs, the longest copy.
-/
import Derived.Test.YtfanamibkgkaiaaDoorDa
namespace Go.Proofs.YtfanamibkgkaiaaDoor.VG
open Go
set_option linter.unusedSimpArgs false
set_option linter.unusedVariables false
set_option maxRecDepth 20000

def runF (l : List Int) (at' d : Nat) : Nat → Nat → Nat
  | 0, n => n
  | f + 1, n => if at' + n < l.length ∧ gi l (at' + n) = gi l (at' + n - d) then runF l at' d f (n + 1) else n
def runI (l : List Int) (at' d : Nat) : Nat := runF l at' d 64 0
theorem runF_le (l : List Int) (at' d : Nat) : ∀ f n, n ≤ runF l at' d f n ∧ runF l at' d f n ≤ n + f
  | 0, n => by simp [runF]
  | f + 1, n => by
    have := runF_le l at' d f (n + 1)
    rw [runF]
    split <;> omega
theorem runI_le (l : List Int) (at' d : Nat) : runI l at' d ≤ 64 := (runF_le l at' d 64 0).2
def lgT (l : List Int) (at' : Nat) : Nat → Nat × Nat
  | 0 => (0, 0)
  | d + 1 => if (lgT l at' d).1 < runI l at' (d + 1) then (runI l at' (d + 1), d + 1) else lgT l at' d
theorem lgT_le (l : List Int) (at' : Nat) : ∀ d, (lgT l at' d).1 ≤ 64 ∧ (lgT l at' d).2 ≤ d
  | 0 => by simp [lgT]
  | d + 1 => by
    have := lgT_le l at' d
    have h := runI_le l at' (d + 1)
    rw [lgT]
    split
    · exact ⟨h, Nat.le_refl _⟩
    · exact ⟨this.1, by omega⟩
def longN (l : List Int) (at' : Nat) : Nat × Nat := if (lgT l at' (min at' 1024)).1 < 3 then (0, 0) else lgT l at' (min at' 1024)
def longI (l : List Int) (a : Int) : Nat × Nat := if a < 0 ∨ (l.length : Int) ≤ a then (0, 0) else longN l a.toNat

set_option maxHeartbeats 4000000 in
theorem run_c {G : Nat → Prop} {w : World} {v : Value} {l : List Int} (hr : Rd G w v l.length (intsV l)) (hl : l.length ≤ 1000000) (at' d : Nat) (hat : at' ≤ l.length) (hd : d ≤ at') :
    Calls Tryd.prog 36 [v, .int .i64 at', .int .i64 d].toArray w (Ret fun r w' => r = .int .i64 (runI l at' d) ∧ Mod none' w w') := by
  refine F_sound c36 (by simp [fc36]) ?_
  obtain ⟨hS, hL⟩ := hr.sl
  simp [fc36, s36]
  refine loop_r (fun m env' w' => ∃ n : Nat, m = 64 - n ∧ n ≤ 64 ∧ env' 0 = v ∧ env' 1 = .int .i64 at' ∧ env' 2 = .int .i64 d ∧ env' 7 = .int .i64 n ∧ runI l at' d = runF l at' d (64 - n) n ∧ Mod none' w w') 64 ?_ ?_
  · exact ⟨0, rfl, by omega, by simp, by simp, by simp, by simp, rfl, Mod.refl _ _⟩
  · rintro m env w1 ⟨n, rfl, hn, e0, e1, e2, e7, hrun, M1⟩
    have wn : IntKind.i64.wrap ((n : Int) + 1) = ((n + 1 : Nat) : Int) := by rw [wI (by omega) (by omega)]; omega
    have wa : IntKind.i64.wrap ((at' : Int) + n) = ((at' + n : Nat) : Int) := by rw [wI (by omega) (by omega)]; omega
    have ws : IntKind.i64.wrap (((at' + n : Nat) : Int) - d) = ((at' + n - d : Nat) : Int) := by rw [wI (by omega) (by omega)]; omega
    by_cases h64 : n = 64
    · subst h64
      have hv : runI l at' d = 64 := hrun
      simp [e7]
      refine ite_r (t := false) (by simp) (fun h => by cases h) (fun _ => ?_)
      simp [e7, hv]
      exact M1.drew
    obtain ⟨f, hf⟩ : ∃ f, 64 - n = f + 1 := ⟨63 - n, by omega⟩
    rw [hf, runF] at hrun
    have hn64 : (n : Int) < 64 := by omega
    obtain ⟨z, hz⟩ : ∃ z, z = at' + n := ⟨_, rfl⟩
    obtain ⟨y, hy⟩ : ∃ y, y = at' + n - d := ⟨_, rfl⟩
    rw [← hy] at ws hrun
    rw [← hz] at wa ws hrun
    by_cases hlen : z < l.length
    · have c1 := (hr.at M1.drew).gi z hlen
      have c2 := (hr.at M1.drew).gi y (by omega)
      have hp := hr.some (by omega)
      have hyl : y < l.length := by omega
      simp only [cell_drew] at c1 c2
      by_cases he : gi l z = gi l y
      · rw [if_pos ⟨hlen, he⟩] at hrun
        simp [e0, e1, e2, e7, hS, hL, wa, ws, hn64, hlen, hyl, hp, c1, c2]
        refine ite_r (t := true) (by simp [he]) (fun _ => ?_) (fun h => by cases h)
        simp [wp_blk, e7, wn, -Int.natCast_add]
        refine ⟨64 - (n + 1), by omega, n + 1, rfl, by omega, ?_⟩
        simp [e0, e1, e2, -Int.natCast_add]
        rw [show 63 - n = f by omega]
        exact ⟨hrun, M1.drew⟩
      · rw [if_neg (fun h => he h.2)] at hrun
        simp [e0, e1, e2, e7, hS, hL, wa, ws, hn64, hlen, hyl, hp, c1, c2]
        refine ite_r (t := false) (by simp [he]) (fun h => by cases h) (fun _ => ?_)
        simp [e7, hrun]
        exact M1.drew
    · rw [if_neg (fun h => hlen h.1)] at hrun
      have hle : ¬ ((z : Int) < (l.length : Int)) := by omega
      simp [e0, e1, e2, e7, hS, hL, wa, ws, hn64, hlen]
      refine ite_r (t := false) (by simp [hlen]) (fun h => by cases h) (fun _ => ?_)
      simp [e7, hrun]
      exact M1.drew

theorem longI_bad {l : List Int} {a : Int} (h : a < 0 ∨ (l.length : Int) ≤ a) : longI l a = (0, 0) := by rw [longI, if_pos h]
theorem longI_nat {l : List Int} {n : Nat} (h : n < l.length) : longI l n = longN l n := by rw [longI, if_neg (by omega), Int.toNat_natCast]
theorem longN_bd (l : List Int) (n : Nat) : (longN l n).1 ≤ 64 ∧ (longN l n).2 ≤ min n 1024 := by
  unfold longN
  split
  · simp
  · exact lgT_le l n (min n 1024)
def two (p : Nat × Nat) : Value := .tuple #[.int .i64 p.1, .int .i64 p.2]

set_option maxHeartbeats 4000000 in
theorem long2_c {G : Nat → Prop} {w : World} {v : Value} {l : List Int} (hr : Rd G w v l.length (intsV l)) (hl : l.length ≤ 1000000) (a : Int) :
    Calls Tryd.prog 28 [v, .int .i64 a].toArray w (Ret fun r w' => r = two (longI l a) ∧ Mod none' w w') := by
  refine F_sound c28 (by simp [fc28]) ?_
  obtain ⟨hS, hL⟩ := hr.sl
  simp [fc28, s28, hS, hL]
  by_cases hb : a < 0 ∨ (l.length : Int) ≤ a
  · rw [longI_bad hb]
    refine ite_r (t := true) (by simp; omega) (fun _ => ?_) (fun h => by cases h)
    simp [Mod.refl, two]
  obtain ⟨n, rfl⟩ : ∃ n : Nat, a = n := ⟨a.toNat, by omega⟩
  rw [longI_nat (by omega)]
  refine ite_r (t := false) (by simp; omega) (fun h => by cases h) (fun _ => ?_)
  simp
  obtain ⟨D, hD⟩ : ∃ D, D = min n 1024 := ⟨_, rfl⟩
  refine for_r D (fun i env' w' => env' 0 = v ∧ env' 1 = .int .i64 n ∧ env' 6 = .int .i64 (lgT l n i).1 ∧ env' 7 = .int .i64 (lgT l n i).2 ∧ env' 8 = .int .i64 ((i : Int) + 1) ∧ Mod none' w w') ?_ ?_ ?_
  · simp [lgT, Mod.refl]
  · rintro i env w1 hi ⟨e0, e1, e6, e7, e8, M1⟩
    have wi : IntKind.i64.wrap ((i : Int) + 1 + 1) = (i : Int) + 1 + 1 := wI (by omega) (by omega)
    simp [e1, e8]
    refine ite_r (t := true) (by simp; omega) (fun _ => ?_) (fun h => by cases h)
    simp [wp_blk]
    refine callm (run_c (hr.at M1) hl n (i + 1) (by omega) (by omega)) (by simp [e0, e1, e8]) ?_
    intro w2 M2
    have hstep : lgT l n (i + 1) = if (lgT l n i).1 < runI l n (i + 1) then (runI l n (i + 1), i + 1) else lgT l n i := rfl
    by_cases hlt : (lgT l n i).1 < runI l n (i + 1)
    · rw [if_pos hlt] at hstep
      simp [e6]
      refine ite_r (t := true) (by simp [hlt]) (fun _ => ?_) (fun h => by cases h)
      simp [e0, e1, e8, wi, hstep]
      exact M1.tr M2
    · rw [if_neg hlt] at hstep
      simp [e6]
      refine ite_r (t := false) (by simp; omega) (fun h => by cases h) (fun _ => ?_)
      simp [e0, e1, e6, e7, e8, wi, hstep]
      exact M1.tr M2
  · rintro env w1 ⟨e0, e1, e6, e7, e8, M1⟩
    simp [e1, e8]
    refine ite_r (t := false) (by simp; omega) (fun h => by cases h) (fun _ => ?_)
    simp [e6]
    rw [longN, ← hD]
    by_cases h3 : (lgT l n D).1 < 3
    · rw [if_pos h3]
      have : ((lgT l n D).1 : Int) < 3 := by omega
      refine ite_r (t := true) (by simp [this]) (fun _ => ?_) (fun h => by cases h)
      simp [two]
      exact M1
    · rw [if_neg h3]
      have : ¬ ((lgT l n D).1 : Int) < 3 := by omega
      refine ite_r (t := false) (by simp [this]) (fun h => by cases h) (fun _ => ?_)
      simp [e6, e7, two]
      exact M1

set_option maxHeartbeats 4000000 in
theorem long_c {G : Nat → Prop} {w : World} {v : Value} {l : List Int} (hr : Rd G w v l.length (intsV l)) (hl : l.length ≤ 1000000) (a : Int) :
    Calls Tryd.prog 27 [v, .int .i64 a].toArray w (Ret fun r w' => r = two (longI l a) ∧ Mod none' w w') := by
  refine F_sound c27 (by simp [fc27]) ?_
  obtain ⟨hS, hL⟩ := hr.sl
  simp [fc27, s27, hS, hL]
  by_cases hb : a < 0 ∨ (l.length : Int) ≤ a
  · rw [longI_bad hb]
    refine ite_r (t := true) (by simp; omega) (fun _ => ?_) (fun h => by cases h)
    simp [Mod.refl, two]
  obtain ⟨at', rfl⟩ : ∃ n : Nat, a = n := ⟨a.toNat, by omega⟩
  rw [longI_nat (by omega)]
  refine ite_r (t := false) (by simp; omega) (fun h => by cases h) (fun _ => ?_)
  simp
  obtain ⟨D, hD⟩ : ∃ D, D = min at' 1024 := ⟨_, rfl⟩
  have hmn : (if 1024 < (at' : Int) then (1024 : Int) else at') = (D : Int) := by
    by_cases h : 1024 < (at' : Int)
    · rw [if_pos h]; omega
    · rw [if_neg h]; omega
  refine for_r D (fun i env' w' => env' 0 = v ∧ env' 1 = .int .i64 at' ∧ env' 4 = .int .i64 (lgT l at' i).1 ∧ env' 5 = .int .i64 (lgT l at' i).2 ∧ env' 6 = .int .i64 ((i : Int) + 1) ∧ Mod none' w w') ?_ ?_ ?_
  · simp [lgT, Mod.refl]
  · rintro i env w1 hi ⟨e0, e1, e4, e5, e6, M1⟩
    have wi : IntKind.i64.wrap ((i : Int) + 1 + 1) = (i : Int) + 1 + 1 := wI (by omega) (by omega)
    have hstep : lgT l at' (i + 1) = if (lgT l at' i).1 < runI l at' (i + 1) then (runI l at' (i + 1), i + 1) else lgT l at' i := rfl
    simp [e1, e6, hmn]
    refine ite_r (t := true) (by simp; omega) (fun _ => ?_) (fun h => by cases h)
    simp [wp_blk]
    obtain ⟨d, hd⟩ : ∃ d, d = i + 1 := ⟨_, rfl⟩
    have e6' : env 6 = .int .i64 (d : Int) := by rw [e6]; congr 1; omega
    replace hstep : lgT l at' (i + 1) = if (lgT l at' i).1 < runI l at' d then (runI l at' d, d) else lgT l at' i := by rw [hd]; rfl
    refine loop_r (fun m env' w' => ∃ n : Nat, m = 64 - n ∧ n ≤ 64 ∧ env' 0 = v ∧ env' 1 = .int .i64 at' ∧ env' 4 = .int .i64 (lgT l at' i).1 ∧ env' 5 = .int .i64 (lgT l at' i).2 ∧ env' 6 = .int .i64 d ∧ env' 7 = .int .i64 n ∧ runI l at' d = runF l at' d (64 - n) n ∧ Mod none' w w') 64 ?_ ?_
    · exact ⟨0, rfl, by omega, by simp [e0], by simp [e1], by simp [e4], by simp [e5], by simp [e6'], by simp, rfl, M1⟩
    · clear M1
      rintro m env w1 ⟨n, rfl, hn, e0, e1, e4, e5, e6, e7, hrun, M1⟩
      have wn : IntKind.i64.wrap ((n : Int) + 1) = ((n + 1 : Nat) : Int) := by rw [wI (by omega) (by omega)]; omega
      have wa : IntKind.i64.wrap ((at' : Int) + n) = ((at' + n : Nat) : Int) := by rw [wI (by omega) (by omega)]; omega
      have ws : IntKind.i64.wrap (((at' + n : Nat) : Int) - d) = ((at' + n - d : Nat) : Int) := by rw [wI (by omega) (by omega)]; omega
      have wd : IntKind.i64.wrap ((d : Int) + 1) = (i : Int) + 1 + 1 := by rw [wI (by omega) (by omega)]; omega
      have stop : n = runI l at' d → ∀ (env' : Env), env' 0 = v → env' 1 = .int .i64 at' → env' 4 = .int .i64 (lgT l at' i).1 → env' 5 = .int .i64 (lgT l at' i).2 → env' 6 = .int .i64 d → env' 7 = .int .i64 n →
          (if (lgT l at' i).1 < n then (((lgT l at' (i + 1)).1 : Int) = n ∧ ((lgT l at' (i + 1)).2 : Int) = d) else lgT l at' (i + 1) = lgT l at' i) := by
        intro hnr env' _ _ _ _ _ _
        rw [← hnr] at hstep
        by_cases hlt : (lgT l at' i).1 < n
        · rw [if_pos hlt] at hstep ⊢
          rw [hstep]; exact ⟨rfl, rfl⟩
        · rw [if_neg hlt] at hstep ⊢
          exact hstep
      by_cases h64 : n = 64
      · have hv : n = runI l at' d := by subst h64; exact hrun.symm
        have hs := stop hv env e0 e1 e4 e5 e6 e7
        have hn64 : ¬ (n : Int) < 64 := by omega
        simp [e7, hn64]
        refine ite_r (t := false) (by simp) (fun h => by cases h) (fun _ => ?_)
        simp [e4, e7]
        by_cases hlt : (lgT l at' i).1 < n
        · rw [if_pos hlt] at hs
          refine ite_r (t := true) (by simp [hlt]) (fun _ => ?_) (fun h => by cases h)
          simp [e0, e1, e6, e7, wd, hs.1, hs.2]
          exact M1.drew
        · rw [if_neg hlt] at hs
          refine ite_r (t := false) (by simp; omega) (fun h => by cases h) (fun _ => ?_)
          simp [e0, e1, e4, e5, e6, wd, hs]
          exact M1.drew
      obtain ⟨f, hf⟩ : ∃ f, 64 - n = f + 1 := ⟨63 - n, by omega⟩
      rw [hf, runF] at hrun
      have hn64 : (n : Int) < 64 := by omega
      obtain ⟨z, hz⟩ : ∃ z, z = at' + n := ⟨_, rfl⟩
      obtain ⟨y, hy⟩ : ∃ y, y = at' + n - d := ⟨_, rfl⟩
      rw [← hy] at ws hrun
      rw [← hz] at wa ws hrun
      by_cases hlen : z < l.length
      · have c1 := (hr.at M1.drew).gi z hlen
        have c2 := (hr.at M1.drew).gi y (by omega)
        have hp := hr.some (by omega)
        have hyl : y < l.length := by omega
        simp only [cell_drew] at c1 c2
        by_cases he : gi l z = gi l y
        · rw [if_pos ⟨hlen, he⟩] at hrun
          simp [e0, e1, e6, e7, hS, hL, wa, ws, hn64, hlen, hyl, hp, c1, c2]
          refine ite_r (t := true) (by simp [he]) (fun _ => ?_) (fun h => by cases h)
          simp [wp_blk, e7, wn, -Int.natCast_add]
          refine ⟨64 - (n + 1), by omega, n + 1, rfl, by omega, ?_⟩
          simp [e0, e1, e4, e5, e6, -Int.natCast_add]
          rw [show 63 - n = f by omega]
          exact ⟨hrun, M1.drew⟩
        · rw [if_neg (fun h => he h.2)] at hrun
          have hs := stop hrun.symm env e0 e1 e4 e5 e6 e7
          simp [e0, e1, e6, e7, hS, hL, wa, ws, hn64, hlen, hyl, hp, c1, c2]
          refine ite_r (t := false) (by simp [he]) (fun h => by cases h) (fun _ => ?_)
          simp [e4, e7]
          by_cases hlt : (lgT l at' i).1 < n
          · rw [if_pos hlt] at hs
            refine ite_r (t := true) (by simp [hlt]) (fun _ => ?_) (fun h => by cases h)
            simp [e0, e1, e6, e7, wd, hs.1, hs.2]
            exact M1.drew
          · rw [if_neg hlt] at hs
            refine ite_r (t := false) (by simp; omega) (fun h => by cases h) (fun _ => ?_)
            simp [e0, e1, e4, e5, e6, wd, hs]
            exact M1.drew
      · rw [if_neg (fun h => hlen h.1)] at hrun
        have hs := stop hrun.symm env e0 e1 e4 e5 e6 e7
        simp [e0, e1, e6, e7, hS, hL, wa, ws, hn64, hlen]
        refine ite_r (t := false) (by simp [hlen]) (fun h => by cases h) (fun _ => ?_)
        simp [e4, e7]
        by_cases hlt : (lgT l at' i).1 < n
        · rw [if_pos hlt] at hs
          refine ite_r (t := true) (by simp [hlt]) (fun _ => ?_) (fun h => by cases h)
          simp [e0, e1, e6, e7, wd, hs.1, hs.2]
          exact M1.drew
        · rw [if_neg hlt] at hs
          refine ite_r (t := false) (by simp; omega) (fun h => by cases h) (fun _ => ?_)
          simp [e0, e1, e4, e5, e6, wd, hs]
          exact M1.drew
  · rintro env w1 ⟨e0, e1, e4, e5, e6, M1⟩
    simp [e1, e6, hmn]
    refine ite_r (t := false) (by simp; omega) (fun h => by cases h) (fun _ => ?_)
    simp [e4]
    rw [longN, ← hD]
    by_cases h3 : (lgT l at' D).1 < 3
    · rw [if_pos h3]
      have : ((lgT l at' D).1 : Int) < 3 := by omega
      refine ite_r (t := true) (by simp [this]) (fun _ => ?_) (fun h => by cases h)
      simp [two]
      exact M1
    · rw [if_neg h3]
      have : ¬ ((lgT l at' D).1 : Int) < 3 := by omega
      refine ite_r (t := false) (by simp [this]) (fun h => by cases h) (fun _ => ?_)
      simp [e4, e5, two]
      exact M1

end Go.Proofs.YtfanamibkgkaiaaDoor.VG
