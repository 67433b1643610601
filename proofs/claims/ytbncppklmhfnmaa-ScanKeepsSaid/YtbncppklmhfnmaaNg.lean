/-
  Scan: the passes of the program.
-/
import Derived.Test.YtbncppklmhfnmaaNf
namespace Go.Proofs.Ytbncppklmhfnmaa.VG
open Go
set_option linter.unusedSimpArgs false
set_option linter.unusedVariables false
set_option maxRecDepth 20000

def tabV : Array Value := #[.int .i64 8, .int .i64 0, .int .i64 8, .int .i64 0, .int .i64 8, .int .i64 4, .int .i64 8, .int .i64 0, .int .i64 4, .int .i64 0, .int .i64 8, .int .i64 4, .int .i64 4, .int .i64 2, .int .i64 4, .int .i64 0, .int .i64 2, .int .i64 0, .int .i64 4, .int .i64 2, .int .i64 2, .int .i64 1, .int .i64 2, .int .i64 0, .int .i64 1, .int .i64 0, .int .i64 2, .int .i64 1]
theorem tab_get {i : Nat} (hi : i < 7) : tabV.extract (i * 4) (i * 4 + 4) = passV i := by
  obtain rfl | rfl | rfl | rfl | rfl | rfl | rfl : i = 0 ∨ i = 1 ∨ i = 2 ∨ i = 3 ∨ i = 4 ∨ i = 5 ∨ i = 6 := by omega
  all_goals kernel_rfl

set_option maxHeartbeats 4000000 in
theorem passes_c {w : World} (wd h : Int) : Calls Try.prog 13 [.int .i64 wd, .int .i64 h].toArray w (Ret fun r w' => OwnRows w w' r (passRI wd h)) := by
  refine F_sound c13 (by simp [fc13]) ?_
  simp [fc13, s13]
  refine callp (may_c wd h) (by simp) ?_
  by_cases hm : mayB wd h = true
  rotate_left
  · have hsz : passRI wd h = [] := by rw [passRI, if_neg hm]
    rw [hsz]
    simp [hm]
    refine ite_r (t := true) (by simp) (fun _ => ?_) (fun h => by cases h)
    simp
    exact OwnRows.nil (Mod.refl _ _)
  obtain ⟨hwb, hhb⟩ := mayB_iff.1 hm
  obtain ⟨W, rfl⟩ : ∃ W : Nat, wd = W := ⟨wd.toNat, by omega⟩
  obtain ⟨H', rfl⟩ : ∃ H' : Nat, h = H' := ⟨h.toNat, by omega⟩
  have hsz : passRI (W : Int) (H' : Int) = passR W (W * H') 7 := by rw [passRI, if_pos hm]; rfl
  have hW : 1 ≤ W ∧ W ≤ 64 := by omega
  have hH : 1 ≤ H' ∧ H' ≤ 64 := by omega
  rw [hsz]
  simp [hm]
  refine ite_r (t := false) (by simp) (fun h => by cases h) (fun _ => ?_)
  simp [putAt, Value.cells]
  obtain ⟨i28, hi28, z28, hz28, hs28⟩ : ∃ i, Try.prog.info? 46 = some i ∧ ∃ z, i.zero = some z ∧ z.cells.size = 28 := ⟨_, rfl, _, rfl, by decide⟩
  obtain ⟨i4, hi4, hz4⟩ : ∃ i, Try.prog.info? 45 = some i ∧ i.zero = some (.agg #[.int .i64 0, .int .i64 0, .int .i64 0, .int .i64 0]) := ⟨_, rfl, rfl⟩
  refine alloc_h (Hp.nil w) hi28 hz28 ?_
  intro b w1 H M1
  refine ⟨.inl rfl, ?_⟩
  refine stAll_h 0 H rfl (v := .agg tabV) rfl (by kernel_rfl) rfl hs28 (by simp [Value.cells, tabV]) ?_
  intro w2 H
  refine ⟨.inl rfl, ?_⟩
  have hcs := cells_blk (H.blk 0 rfl) 28 rfl
  simp [hcs]
  refine ⟨fun j hj => by rw [H.blk 0 rfl j]; have : j < (Value.agg tabV).cells.size := hj; simp [this], ?_⟩
  replace H : Hp w w2 [.own 24 1 (.slice none 0 0) 0 []] := (H.drop 0).nilS
  refine for_r 7 (fun i env' w' => env' 0 = .int .i64 W ∧ env' 1 = .int .i64 H' ∧ env' 24 = .agg tabV ∧ env' 25 = .int .i64 i ∧ OwnRows w w' (env' 6) (passR W (W * H') i)) ?_ ?_ ?_
  · simp
    exact ⟨by rfl, [], rfl, H⟩
  · rintro i env w3 hi ⟨e0, e1, e24, e25, vs, hvs, H⟩
    have wi : IntKind.i64.wrap ((i : Int) + 1) = ((i + 1 : Nat) : Int) := by rw [wI (by omega) (by omega)]; omega
    generalize hqv : env 6 = qv at *
    simp [e25]
    refine ite_r (t := true) (by simp; omega) (fun _ => ?_) (fun h => by cases h)
    rw [wp_nil, thn_normal, wp_blk]
    refine chk_s (by simp [e24, e25]; omega) ?_
    refine alloc_h (Hp.nil w3) hi4 hz4 ?_
    intro b4 w4 HB M4
    refine ⟨.inl rfl, ?_⟩
    have htg := tab_get hi
    refine stAll_h 0 HB rfl (v := .agg (passV i)) rfl (by simp [e25]; rw [e24]; exact htg) rfl rfl (by simp [Value.cells, passV]) ?_
    intro w5 HB
    refine ⟨.inl rfl, ?_⟩
    obtain ⟨c0, c1, c2, c3⟩ := blk4 (HB.blk 0 rfl)
    replace H := H.same HB.mod
    have HR := (Hp.nil w5).nilS (e := 3) (size := 1)
    obtain ⟨hA, hC, hb1, hb2, hb3, hb4⟩ := pAC i hi
    have hA0 : 0 < pA i := by omega
    have hC0 : 0 < pC i := by omega
    have hrow := fun (y y' : Nat) => pass_row (i := i) (W := W) (H := H') (y := y) (y' := y') hW.1
    have hcol := fun (y x x' : Nat) => pass_col (i := i) (W := W) (y := y) (x := x) (x' := x') hW.1
    have hpt := fun (y x : Nat) => pass_pt (i := i) (W := W) (y := y) (x := x)
    generalize pA i = A at *
    generalize pB i = B at *
    generalize pC i = C at *
    generalize pD i = D at *
    simp [c0, c1, c2, c3]
    refine loop_r (fun m env' w' => ∃ y j, m = H' + 8 - y ∧ y = D + j * C ∧ y < H' + 8 ∧ env' 0 = .int .i64 W ∧ env' 1 = .int .i64 H' ∧ env' 6 = qv ∧ env' 8 = .pointer (some ⟨b4, 0, none⟩) ∧ env' 10 = .int .i64 y ∧ env' 24 = .agg tabV ∧ env' 25 = .int .i64 i ∧ OwnRow w5 w' (env' 9) (passL i W (min y H' * W))) (H' + 8 - D) ?_ ?_
    · refine ⟨D, 0, rfl, by omega, by omega, ?_⟩
      have hs := hrow 0 D (fun r _ h2 _ => by rw [Nat.mod_eq_of_lt (by omega)]; omega) (Nat.zero_le _)
      have hz : passL i W (min 0 H' * W) = [] := by rw [Nat.zero_min, Nat.zero_mul]; rfl
      rw [hz] at hs
      simp [e0, e1, e25, hqv, hs]
      exact ⟨e24, HR⟩
    · rintro m env w6 ⟨y, j, rfl, hy, hy8, e0, e1, e6, e8, e10, e24, e25, HR⟩
      have d0 : w6.cell? ⟨b4, 0, none⟩ = some (.int .i64 A) := HR.mod.cell c0 (fun h => h)
      have d1 : w6.cell? ⟨b4, 1, none⟩ = some (.int .i64 B) := HR.mod.cell c1 (fun h => h)
      have d2 : w6.cell? ⟨b4, 2, none⟩ = some (.int .i64 C) := HR.mod.cell c2 (fun h => h)
      have d3 : w6.cell? ⟨b4, 3, none⟩ = some (.int .i64 D) := HR.mod.cell c3 (fun h => h)
      by_cases hyH : y < H'
      · simp [e10, e1]
        refine ite_r (t := true) (by simp; omega) (fun _ => ?_) (fun h => by cases h)
        simp [wp_blk, e8, d1]
        have hyy : min y H' * W = y * W := by rw [Nat.min_eq_left (by omega)]
        rw [hyy] at HR
        have hyW : y * W ≤ 63 * 64 := Nat.mul_le_mul (by omega) (by omega)
        have hyC : y % C = D := by rw [hy, Nat.add_mul_mod_self_right, Nat.mod_eq_of_lt hb2]
        refine loop_r (fun m env' w' => ∃ x j', m = W + 8 - x ∧ x = B + j' * A ∧ x < W + 8 ∧ env' 0 = .int .i64 W ∧ env' 1 = .int .i64 H' ∧ env' 6 = qv ∧ env' 8 = .pointer (some ⟨b4, 0, none⟩) ∧ env' 10 = .int .i64 y ∧ env' 11 = .int .i64 x ∧ env' 24 = .agg tabV ∧ env' 25 = .int .i64 i ∧ OwnRow w5 w' (env' 9) (passL i W (y * W + min x W))) (W + 8 - B) ?_ ?_
        · refine ⟨B, 0, rfl, by omega, by omega, ?_⟩
          have hs := hcol y 0 B (fun r _ h2 _ => by rw [Nat.mod_eq_of_lt (by omega)]; omega) (Nat.zero_le _)
          rw [Nat.zero_min, Nat.add_zero] at hs
          simp [e0, e1, e6, e8, e10, e25, hs]
          exact ⟨e24, HR⟩
        · rintro m env w7 ⟨x, j', rfl, hx, hx8, e0, e1, e6, e8, e10, e11, e24, e25, HR⟩
          have d0 : w7.cell? ⟨b4, 0, none⟩ = some (.int .i64 A) := HR.mod.cell c0 (fun h => h)
          have d2 : w7.cell? ⟨b4, 2, none⟩ = some (.int .i64 C) := HR.mod.cell c2 (fun h => h)
          by_cases hxW : x < W
          · simp [e11, e0]
            refine ite_r (t := true) (by simp; omega) (fun _ => ?_) (fun h => by cases h)
            have hxx : y * W + min x W = y * W + x := by rw [Nat.min_eq_left (by omega)]
            rw [hxx] at HR
            have hxA : x % A = B := by rw [hx, Nat.add_mul_mod_self_right, Nat.mod_eq_of_lt hb1]
            have hp := hpt y x hxW hxA hyC
            have hs := hcol y (x + 1) (x + A) (fun r h1 h2 _ => by
              have := mod_skip (j := j') hb1 (show 0 < r - x by omega) (by omega)
              rwa [show B + j' * A + (r - x) = r by omega] at this) (by omega)
            rw [Nat.min_eq_left (show x + 1 ≤ W by omega), ← Nat.add_assoc, hp] at hs
            obtain ⟨yW, hyw⟩ : ∃ k, k = y * W := ⟨_, rfl⟩
            have ey : (y : Int) * (W : Int) = (yW : Int) := by rw [hyw, Int.natCast_mul]
            have wyW : IntKind.i64.wrap (yW : Int) = (yW : Int) := wI (by omega) (by omega)
            obtain ⟨z, hz⟩ : ∃ k, k = yW + x := ⟨_, rfl⟩
            have wv : IntKind.i64.wrap ((yW : Int) + x) = (z : Int) := by rw [wI (by omega) (by omega)]; omega
            have wx : IntKind.i64.wrap ((x : Int) + A) = ((x + A : Nat) : Int) := by rw [wI (by omega) (by omega)]; omega
            have hlen := passL_len i W (y * W + x)
            rw [← hyw] at HR hlen hs
            rw [← hz] at HR hlen hs
            unfold OwnRow at HR
            generalize hrv : env 9 = rv at *
            simp [wp_blk, e0, e10, e11, ey, wyW, wv]
            refine app1_h slTI 0 HR rfl (u := .int .i64 (z : Int)) (by simp) (by omega) (by unfold maxLen; omega) (by simp [e0, e10, e11, ey, wyW, wv]) (by simp [hrv]) (by simp) (by simp) ?_
            intro vb v' w8 w9 HR
            refine ⟨.inl rfl, ?_⟩
            have d0 : w9.cell? ⟨b4, 0, none⟩ = some (.int .i64 A) := HR.mod.cell c0 (fun h => h)
            simp [-Int.natCast_add, e8, e11, d0, wx]
            refine ⟨W + 8 - (x + A), by omega, x + A, rfl, ⟨j' + 1, by rw [Nat.succ_mul]; omega⟩, by omega, ?_⟩
            simp [-Int.natCast_add, e0, e1, e6, e10, e25]
            refine ⟨e24, ?_⟩
            simp only [List.set_cons_zero] at HR
            rw [intsV_snoc] at HR
            unfold OwnRow
            rw [← hyw, hs]
            simpa using HR
          · simp [e11, e0]
            refine ite_r (t := false) (by simp; omega) (fun h => by cases h) (fun _ => ?_)
            simp [e8, e10, d2]
            have wy : IntKind.i64.wrap ((y : Int) + C) = ((y + C : Nat) : Int) := by rw [wI (by omega) (by omega)]; omega
            have hs := hrow (y + 1) (y + C) (fun r h1 h2 _ => by
              have := mod_skip (j := j) hb2 (show 0 < r - y by omega) (by omega)
              rwa [show D + j * C + (r - y) = r by omega] at this) (by omega)
            rw [Nat.min_eq_left (show y + 1 ≤ H' by omega), Nat.succ_mul] at hs
            rw [Nat.min_eq_right (show W ≤ x by omega), ← hs] at HR
            refine ⟨H' + 8 - (y + C), by omega, y + C, rfl, ⟨j + 1, by rw [Nat.succ_mul]; omega⟩, by omega, ?_⟩
            simp [-Int.natCast_add, e0, e1, e6, e25, wy]
            exact ⟨e24, HR⟩
      · simp [e10, e1]
        refine ite_r (t := false) (by simp; omega) (fun h => by cases h) (fun _ => ?_)
        rw [Nat.min_eq_right (by omega), Nat.mul_comm] at HR
        have hlen := passR_len W (W * H') i
        have H2 := H.join HR
        have ho := own_slice (j := 0) HR rfl
        simp
        have hvl : vs.length = i := by rw [hvs, hlen]
        refine app1_h slTR 0 H2 rfl (u := env 9) ho (by omega) (by unfold maxLen; omega) (by simp) (by simp [e6]) (by simp) (by simp) ?_
        intro vb v' w8 w9 H
        refine ⟨.inl rfl, ?_⟩
        simp [-Int.natCast_add, wi, e0, e1, e25]
        simp only [List.cons_append, List.set_cons_zero] at H
        rw [rowsI_snoc hvs] at H
        refine ⟨e24, by omega, vs ++ [env 9], by simp [passR, hvs], ?_⟩
        have e : (passR W (W * H') (i + 1)).length = (passR W (W * H') i).length + 1 := by simp [passR]
        rw [e]
        exact H
  · rintro env w3 ⟨e0, e1, e24, e25, H⟩
    simp [e25]
    refine ite_r (t := false) (by simp) (fun h => by cases h) (fun _ => ?_)
    simp
    exact H

end Go.Proofs.Ytbncppklmhfnmaa.VG
