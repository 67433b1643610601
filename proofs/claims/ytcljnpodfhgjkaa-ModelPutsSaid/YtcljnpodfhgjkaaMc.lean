/-
  Model: the levels of four, contexts, classes.
-/
import Derived.Test.YtcljnpodfhgjkaaMb
namespace Go.Proofs.Ytcljnpodfhgjkaa.VG
open Go
set_option linter.unusedSimpArgs false
set_option linter.unusedVariables false
set_option maxRecDepth 20000

def okN (x n a b d : Int) : Bool := dep d && ([x, n, a, b] : List Int).all (inD d)
def lA (x n a b d : Int) : Int := if okN x n a b d = true then lvlI (b - n) d else 0
def lB (x n a b d : Int) : Int := if okN x n a b d = true then lvlI (n - a) d else 0
def lC (x n a b d : Int) : Int := if okN x n a b d = true then lvlI (a - x) d else 0
theorem lA_bd (x n a b d : Int) : -4 ≤ lA x n a b d ∧ lA x n a b d ≤ 4 := by have := lvl_bd (b - n) d; unfold lA; split <;> omega
theorem lB_bd (x n a b d : Int) : -4 ≤ lB x n a b d ∧ lB x n a b d ≤ 4 := by have := lvl_bd (n - a) d; unfold lB; split <;> omega
theorem lC_bd (x n a b d : Int) : -4 ≤ lC x n a b d ∧ lC x n a b d ≤ 4 := by have := lvl_bd (a - x) d; unfold lC; split <;> omega
theorem okN_iff {x n a b d : Int} : okN x n a b d = true ↔ dep d = true ∧ (0 ≤ x ∧ x < p2 d) ∧ (0 ≤ n ∧ n < p2 d) ∧ (0 ≤ a ∧ a < p2 d) ∧ 0 ≤ b ∧ b < p2 d := by
  unfold okN
  rw [Bool.and_eq_true, all4]
def ctxI (x n a b d : Int) : Int := 81 * lA x n a b d + 9 * lB x n a b d + lC x n a b d
def clsI (x n a b d : Int) : Int := farI (lA x n a b d) + farI (lB x n a b d) + farI (lC x n a b d)
theorem blk3 {w : World} {t : Nat} {a b c : Value} (h : ∀ o, w.cell? ⟨t, o, none⟩ = (#[a, b, c] : Array Value)[o]?) : w.cell? ⟨t, 0, none⟩ = some a ∧ w.cell? ⟨t, 1, none⟩ = some b ∧ w.cell? ⟨t, 2, none⟩ = some c :=
  ⟨by rw [h 0]; rfl, by rw [h 1]; rfl, by rw [h 2]; rfl⟩
theorem blk4 {w : World} {t : Nat} {a b c d : Value} (h : ∀ o, w.cell? ⟨t, o, none⟩ = (#[a, b, c, d] : Array Value)[o]?) : w.cell? ⟨t, 0, none⟩ = some a ∧ w.cell? ⟨t, 1, none⟩ = some b ∧ w.cell? ⟨t, 2, none⟩ = some c ∧ w.cell? ⟨t, 3, none⟩ = some d :=
  ⟨by rw [h 0]; rfl, by rw [h 1]; rfl, by rw [h 2]; rfl, by rw [h 3]; rfl⟩

theorem four_of {H : Type} {enc : TypeId × Value → H} {w : World} {a : Array Value} (h : Sees enc Try.prog w 22 a.toList) : ∃ f0 f1 f2 f3 : Int, Value.agg a = .agg #[.int .i64 f0, .int .i64 f1, .int .i64 f2, .int .i64 f3] := by
  obtain ⟨l, hl, rfl, _⟩ := arr_of (e := 3) (k := .i64) (n := 4) (by kernel_rfl) (by kernel_rfl) (by kernel_rfl) (by kernel_rfl) h
  match l, hl with
  | [f0, f1, f2, f3], _ => exact ⟨f0, f1, f2, f3, rfl⟩

def tri (a b c : Int) : Value := .agg #[.int .i64 a, .int .i64 b, .int .i64 c]
theorem ret3 {w : World} {t : Nat} {a b c : Value} (h : ∀ o, w.cell? ⟨t, o, none⟩ = (#[a, b, c] : Array Value)[o]?) : cellsFrom w ⟨t, 0, none⟩ 0 3 = [a, b, c] := by
  obtain ⟨h0, h1, h2⟩ := blk3 h
  simp [cellsFrom, h0, h1, h2]

set_option maxHeartbeats 2000000 in
theorem levs_c {w : World} (x n a b d : Int) : Calls Try.prog 39 [.int .i64 x, .int .i64 n, .int .i64 a, .int .i64 b, .int .i64 d].toArray w
    (Ret fun r w' => r = tri (lA x n a b d) (lB x n a b d) (lC x n a b d) ∧ Mod none' w w') := by
  refine F_sound c39 (by simp [fc39]) ?_
  obtain ⟨i3, hi3, hz3⟩ : ∃ i, Try.prog.info? 68 = some i ∧ i.zero = some (.agg #[.int .i64 0, .int .i64 0, .int .i64 0]) := ⟨_, rfl, rfl⟩
  simp [fc39, s39]
  refine alloc_h (Hp.nil w) hi3 hz3 ?_
  intro t w1 H _
  refine ⟨.inl rfl, ?_⟩
  replace H : Hp w w1 [.blk t #[.int .i64 0, .int .i64 0, .int .i64 0]] := H
  simp
  refine callp (valid_c d) (by simp) ?_
  have bad : okN x n a b d = false → lA x n a b d = 0 ∧ lB x n a b d = 0 ∧ lC x n a b d = 0 := fun h => by
    unfold lA lB lC; simp [h]
  cases hd : dep d
  · obtain ⟨b1, b2, b3⟩ := bad (by simp [okN, hd])
    simp
    refine ite_r (t := true) (by simp) (fun _ => ?_) (fun h => by cases h)
    refine stAll_h 0 H rfl (v := .agg #[.int .i64 0, .int .i64 0, .int .i64 0]) rfl rfl rfl rfl (by simp [Value.cells]) ?_
    intro w2 H
    refine ⟨.inl rfl, ?_⟩
    obtain ⟨c0, c1, c2⟩ := blk3 (H.blk 0 rfl)
    have e3 := ret3 (H.blk 0 rfl)
    simp [b1, b2, b3, tri, c0, c1, c2, e3]
    exact ⟨fun j hj => by obtain rfl | rfl | rfl : j = 0 ∨ j = 1 ∨ j = 2 := by omega
                          all_goals simp [c0, c1, c2], H.mod⟩
  have hd' := dep_iff.1 hd
  have hp := p2_bd hd'.2
  have hs := shl_p2 (d := d) (by omega) (by omega)
  simp
  refine ite_r (t := false) (by simp) (fun h => by cases h) (fun _ => ?_)
  have q0 : IntKind.i64.wrap 0 = 0 := by decide
  have q1 : IntKind.i64.wrap 1 = 1 := by decide
  have q2 : IntKind.i64.wrap 2 = 2 := by decide
  have q3 : IntKind.i64.wrap 3 = 3 := by decide
  have q4 : IntKind.i64.wrap 4 = 4 := by decide
  simp [hd'.1, putAt, Value.cells]
  refine for_r 4 (fun i env' w' => env' 0 = .int .i64 x ∧ env' 1 = .int .i64 n ∧ env' 2 = .int .i64 a ∧ env' 3 = .int .i64 b ∧ env' 4 = .int .i64 d ∧ env' 10 = .pointer (some ⟨t, 0, none⟩) ∧ env' 21 = .agg #[.int .i64 x, .int .i64 n, .int .i64 a, .int .i64 b] ∧ env' 22 = .int .i64 i ∧
    ((0 < i → 0 ≤ x ∧ x < p2 d) ∧ (1 < i → 0 ≤ n ∧ n < p2 d) ∧ (2 < i → 0 ≤ a ∧ a < p2 d) ∧ (3 < i → 0 ≤ b ∧ b < p2 d)) ∧ Hp w w' [.blk t #[.int .i64 0, .int .i64 0, .int .i64 0]]) ?_ ?_ ?_
  · simp
    exact H
  · rintro i env w' hi ⟨e0, e1, e2, e3, e4, e10, e21, e22, hall, H⟩
    simp [e22]
    refine ite_r (t := true) (by simp; omega) (fun _ => ?_) (fun h => by cases h)
    simp [wp_blk]
    have wI1 : IntKind.i64.wrap ((i : Int) + 1) = ((i + 1 : Nat) : Int) := by rw [wI (by omega) (by omega)]; omega
    obtain ⟨y, hy, hy2, hy3⟩ : ∃ y : Int, (∀ h, ([.int .i64 x, .int .i64 n, .int .i64 a, .int .i64 b] : List Value)[i]'h = .int .i64 y) ∧ (¬ (0 ≤ y ∧ y < p2 d) → okN x n a b d = false) ∧ ((0 ≤ y ∧ y < p2 d) → ((0 < i + 1 → 0 ≤ x ∧ x < p2 d) ∧ (1 < i + 1 → 0 ≤ n ∧ n < p2 d) ∧ (2 < i + 1 → 0 ≤ a ∧ a < p2 d) ∧ (3 < i + 1 → 0 ≤ b ∧ b < p2 d))) := by
      have hno : ¬ ((0 ≤ x ∧ x < p2 d) ∧ (0 ≤ n ∧ n < p2 d) ∧ (0 ≤ a ∧ a < p2 d) ∧ 0 ≤ b ∧ b < p2 d) → okN x n a b d = false := fun h => by
        cases h' : okN x n a b d
        · rfl
        · exact absurd (okN_iff.1 h').2 h
      obtain rfl | rfl | rfl | rfl : i = 0 ∨ i = 1 ∨ i = 2 ∨ i = 3 := by omega
      · exact ⟨x, fun _ => rfl, fun h => hno (by omega), fun h => by omega⟩
      · exact ⟨n, fun _ => rfl, fun h => hno (by omega), fun h => by omega⟩
      · exact ⟨a, fun _ => rfl, fun h => hno (by omega), fun h => by omega⟩
      · exact ⟨b, fun _ => rfl, fun h => hno (by omega), fun h => by omega⟩
    simp [e4, e21, e22, hs, hy, hi]
    refine ⟨by omega, fun _ => by omega, ?_⟩
    by_cases hyy : 0 ≤ y ∧ y < p2 d
    · have hall2 := hy3 hyy
      refine ite_r (t := false) (by simp; omega) (fun h => by cases h) (fun _ => ?_)
      simp [e0, e1, e2, e3, e4, e10, e21, e22, wI1, -Int.natCast_add]
      exact ⟨by omega, by omega, H⟩
    · obtain ⟨b1, b2, b3⟩ := bad (hy2 hyy)
      refine ite_r (t := true) (by simp; omega) (fun _ => ?_) (fun h => by cases h)
      refine stAll_h 0 H rfl (v := .agg #[.int .i64 0, .int .i64 0, .int .i64 0]) (by simp [e10]) rfl rfl rfl (by simp [Value.cells]) ?_
      intro w2 H
      refine ⟨.inl rfl, ?_⟩
      obtain ⟨c0, c1, c2⟩ := blk3 (H.blk 0 rfl)
      have e3 := ret3 (H.blk 0 rfl)
      simp [e10, b1, b2, b3, tri, c0, c1, c2, e3]
      exact ⟨fun j hj => by obtain rfl | rfl | rfl : j = 0 ∨ j = 1 ∨ j = 2 := by omega
                            all_goals simp [c0, c1, c2], H.mod⟩
  · rintro env w' ⟨e0, e1, e2, e3, e4, e10, e21, e22, hall, H⟩
    simp [e22]
    refine ite_r (t := false) (by simp) (fun h => by cases h) (fun _ => ?_)
    simp at hall
    have hok : okN x n a b d = true := okN_iff.2 ⟨hd, hall⟩
    obtain ⟨hx, hn, ha, hb⟩ := hall
    have r1 : IntKind.i64.wrap (b - n) = b - n := wI (by omega) (by omega)
    have r2 : IntKind.i64.wrap (n - a) = n - a := wI (by omega) (by omega)
    have r3 : IntKind.i64.wrap (a - x) = a - x := wI (by omega) (by omega)
    simp [e0, e1, e2, e3, e4, r1]
    refine callp (level_c (b - n) d) (by simp [e1, e3, e4, r1]) ?_
    simp [e0, e1, e2, e3, e4, r2]
    refine callp (level_c (n - a) d) (by simp [e1, e2, e4, r2]) ?_
    simp [e0, e1, e2, e3, e4, r3]
    refine callp (level_c (a - x) d) (by simp [e0, e2, e4, r3]) ?_
    have z1 : lA x n a b d = lvlI (b - n) d := by rw [lA, if_pos hok]
    have z2 : lB x n a b d = lvlI (n - a) d := by rw [lB, if_pos hok]
    have z3 : lC x n a b d = lvlI (a - x) d := by rw [lC, if_pos hok]
    rw [z1, z2, z3]
    generalize lvlI (b - n) d = y1
    generalize lvlI (n - a) d = y2
    generalize lvlI (a - x) d = y3
    simp [e10, putAt, Value.cells]
    refine stAll_h 0 H rfl (v := tri y1 y2 y3) (by simp [e10]) (by simp [putAt, Value.cells, tri]) rfl rfl (by simp [Value.cells, tri]) ?_
    intro w2 H
    refine ⟨.inl rfl, ?_⟩
    obtain ⟨c0, c1, c2⟩ := blk3 (H.blk 0 rfl)
    have e3 := ret3 (H.blk 0 rfl)
    simp [e10, tri, c0, c1, c2, e3]
    exact ⟨fun j hj => by obtain rfl | rfl | rfl : j = 0 ∨ j = 1 ∨ j = 2 := by omega
                          all_goals simp [c0, c1, c2], H.mod⟩

def quad (x n a b d : Int) : Value := .tuple #[.int .i64 (lA x n a b d), .int .i64 (lB x n a b d), .int .i64 (lC x n a b d), .bool (okN x n a b d)]
set_option maxHeartbeats 2000000 in
theorem levs2_c {w : World} (x n a b d : Int) : Calls Try.prog 64 [.int .i64 x, .int .i64 n, .int .i64 a, .int .i64 b, .int .i64 d].toArray w
    (Ret fun r w' => r = quad x n a b d ∧ Mod none' w w') := by
  refine F_sound c64 (by simp [fc64]) ?_
  simp [fc64, s64]
  refine callp (dep2_c d) (by simp) ?_
  have bad : okN x n a b d = false → lA x n a b d = 0 ∧ lB x n a b d = 0 ∧ lC x n a b d = 0 := fun h => by
    unfold lA lB lC; simp [h]
  cases hd : dep d
  · have h0 : okN x n a b d = false := by simp [okN, hd]
    obtain ⟨b1, b2, b3⟩ := bad h0
    simp
    refine ifg_r (t := true) (by simp) (fun h => by cases h) (fun _ => ?_)
    simp
    refine ifg_r (t := true) (by simp) (fun h => by cases h) (fun _ => ?_)
    simp
    refine ite_r (t := true) (by simp) (fun _ => ?_) (fun h => by cases h)
    simp [quad, b1, b2, b3, h0]
    exact Mod.refl _ _
  have hd' := dep_iff.1 hd
  have hp := p2_bd hd'.2
  simp
  refine ifg_r (t := false) (by simp) (fun _ => ?_) (fun h => (h rfl).elim)
  refine bs_h slTI (([x, n, a, b] : List Int).map fun n => .int .i64 n) (Hp.nil w) rfl (by decide) (by simp) (by simp [Value.cells]) ?_
  intro cv w2 H M2
  refine ⟨.inl rfl, ?_⟩
  rw [flat_ints] at H
  simp
  refine ifg_r (t := false) (by simp) (fun _ => ?_) (fun h => (h rfl).elim)
  refine callp (within2_c (l := [x, n, a, b]) d (H.rd 0 rfl) (by unfold maxLen; simp) hd) (by simp) ?_
  cases hall : ([x, n, a, b] : List Int).all (inD d)
  · have h0 : okN x n a b d = false := by rw [okN, hall]; simp
    obtain ⟨b1, b2, b3⟩ := bad h0
    simp
    refine ite_r (t := true) (by simp) (fun _ => ?_) (fun h => by cases h)
    simp [quad, b1, b2, b3, h0]
    exact H.mod
  have hok : okN x n a b d = true := by rw [okN, hd, hall]; rfl
  obtain ⟨_, hx, hn, ha, hb⟩ := okN_iff.1 hok
  simp
  refine ite_r (t := false) (by simp) (fun h => by cases h) (fun _ => ?_)
  have r1 : IntKind.i64.wrap (b - n) = b - n := wI (by omega) (by omega)
  have r2 : IntKind.i64.wrap (n - a) = n - a := wI (by omega) (by omega)
  have r3 : IntKind.i64.wrap (a - x) = a - x := wI (by omega) (by omega)
  simp [r1]
  refine callp (level2_c (b - n) d (by omega)) (by simp [r1]) ?_
  simp [r2]
  refine callp (level2_c (n - a) d (by omega)) (by simp [r2]) ?_
  simp [r3]
  refine callp (level2_c (a - x) d (by omega)) (by simp [r3]) ?_
  have z1 : lA x n a b d = lvlI (b - n) d := by rw [lA, if_pos hok]
  have z2 : lB x n a b d = lvlI (n - a) d := by rw [lB, if_pos hok]
  have z3 : lC x n a b d = lvlI (a - x) d := by rw [lC, if_pos hok]
  simp [quad, z1, z2, z3, hok]
  exact H.mod

def ctxV (x n a b d : Int) : Value := .tuple #[.int .i64 (farI (ctxI x n a b d)), .bool (decide (ctxI x n a b d < 0))]
theorem ctx_c {w : World} (x n a b d : Int) : Calls Try.prog 12 [.int .i64 x, .int .i64 n, .int .i64 a, .int .i64 b, .int .i64 d].toArray w
    (Ret fun r w' => r = ctxV x n a b d ∧ Mod none' w w') := by
  refine F_sound c12 (by simp [fc12]) ?_
  obtain ⟨i3, hi3, hz3⟩ : ∃ i, Try.prog.info? 68 = some i ∧ i.zero = some (.agg #[.int .i64 0, .int .i64 0, .int .i64 0]) := ⟨_, rfl, rfl⟩
  simp [fc12, s12]
  refine callm (levs_c x n a b d) (by simp) ?_
  intro w1 M1
  have H := Hp.ofMod M1
  refine alloc_h H hi3 hz3 ?_
  intro t w1 H _
  refine ⟨.inl rfl, ?_⟩
  replace H : Hp w w1 [.blk t #[.int .i64 0, .int .i64 0, .int .i64 0]] := H
  have h1 := lA_bd x n a b d
  have h2 := lB_bd x n a b d
  have h3 := lC_bd x n a b d
  unfold ctxV ctxI
  generalize lA x n a b d = y1 at *
  generalize lB x n a b d = y2 at *
  generalize lC x n a b d = y3 at *
  refine stAll_h 0 H rfl (v := tri y1 y2 y3) (by simp) (by simp [tri]) rfl rfl (by simp [Value.cells, tri]) ?_
  intro w2 H
  refine ⟨.inl rfl, ?_⟩
  obtain ⟨c0, c1, c2⟩ := blk3 (H.blk 0 rfl)
  have r1 : IntKind.i64.wrap (81 * y1) = 81 * y1 := wI (by omega) (by omega)
  have r2 : IntKind.i64.wrap (9 * y2) = 9 * y2 := wI (by omega) (by omega)
  have r3 : IntKind.i64.wrap (81 * y1 + 9 * y2) = 81 * y1 + 9 * y2 := wI (by omega) (by omega)
  have r4 : IntKind.i64.wrap (81 * y1 + 9 * y2 + y3) = 81 * y1 + 9 * y2 + y3 := wI (by omega) (by omega)
  simp [c0, c1, c2, r1, r2, r3, r4]
  refine callp (abs_c (81 * y1 + 9 * y2 + y3) (by omega)) (by simp) ?_
  simp
  exact H.mod
theorem ctx2_c {w : World} (x n a b d : Int) : Calls Try.prog 33 [.int .i64 x, .int .i64 n, .int .i64 a, .int .i64 b, .int .i64 d].toArray w
    (Ret fun r w' => r = ctxV x n a b d ∧ Mod none' w w') := by
  refine F_sound c33 (by simp [fc33]) ?_
  simp [fc33, s33]
  refine callm (levs2_c x n a b d) (by simp) ?_
  intro w1 M1
  have H := Hp.ofMod M1
  have h1 := lA_bd x n a b d
  have h2 := lB_bd x n a b d
  have h3 := lC_bd x n a b d
  have bad : okN x n a b d = false → lA x n a b d = 0 ∧ lB x n a b d = 0 ∧ lC x n a b d = 0 := fun h => by
    unfold lA lB lC; simp [h]
  unfold ctxV ctxI quad
  generalize lA x n a b d = y1 at *
  generalize lB x n a b d = y2 at *
  generalize lC x n a b d = y3 at *
  cases hok : okN x n a b d
  · obtain ⟨rfl, rfl, rfl⟩ := bad hok
    simp
    refine ite_r (t := true) (by simp) (fun _ => ?_) (fun h => by cases h)
    simp [farI]
    exact H.mod
  have r1 : IntKind.i64.wrap (81 * y1) = 81 * y1 := wI (by omega) (by omega)
  have r2 : IntKind.i64.wrap (9 * y2) = 9 * y2 := wI (by omega) (by omega)
  have r3 : IntKind.i64.wrap (81 * y1 + 9 * y2) = 81 * y1 + 9 * y2 := wI (by omega) (by omega)
  have r4 : IntKind.i64.wrap (81 * y1 + 9 * y2 + y3) = 81 * y1 + 9 * y2 + y3 := wI (by omega) (by omega)
  simp
  refine ite_r (t := false) (by simp) (fun h => by cases h) (fun _ => ?_)
  simp [r1, r2, r3, r4]
  refine callp (far27_c (81 * y1 + 9 * y2 + y3) (by omega)) (by simp) ?_
  rw [farW_is (by omega)]
  simp
  exact H.mod
theorem cls_c {w : World} (x n a b d : Int) : Calls Try.prog 13 [.int .i64 x, .int .i64 n, .int .i64 a, .int .i64 b, .int .i64 d].toArray w
    (Ret fun r w' => r = .int .i64 (clsI x n a b d) ∧ Mod none' w w') := by
  refine F_sound c13 (by simp [fc13]) ?_
  obtain ⟨i3, hi3, hz3⟩ : ∃ i, Try.prog.info? 68 = some i ∧ i.zero = some (.agg #[.int .i64 0, .int .i64 0, .int .i64 0]) := ⟨_, rfl, rfl⟩
  simp [fc13, s13]
  refine callm (levs_c x n a b d) (by simp) ?_
  intro w1 M1
  have H := Hp.ofMod M1
  refine alloc_h H hi3 hz3 ?_
  intro t w1 H _
  refine ⟨.inl rfl, ?_⟩
  replace H : Hp w w1 [.blk t #[.int .i64 0, .int .i64 0, .int .i64 0]] := H
  have h1 := lA_bd x n a b d
  have h2 := lB_bd x n a b d
  have h3 := lC_bd x n a b d
  unfold clsI
  generalize lA x n a b d = y1 at *
  generalize lB x n a b d = y2 at *
  generalize lC x n a b d = y3 at *
  refine stAll_h 0 H rfl (v := tri y1 y2 y3) (by simp) (by simp [tri]) rfl rfl (by simp [Value.cells, tri]) ?_
  intro w2 H
  refine ⟨.inl rfl, ?_⟩
  obtain ⟨c0, c1, c2⟩ := blk3 (H.blk 0 rfl)
  have f1 := farM_bd (x := y1) (by omega)
  have f2 := farM_bd (x := y2) (by omega)
  have f3 := farM_bd (x := y3) (by omega)
  have r3 : IntKind.i64.wrap (farI y1 + farI y2) = farI y1 + farI y2 := wI (by omega) (by omega)
  have r4 : IntKind.i64.wrap (farI y1 + farI y2 + farI y3) = farI y1 + farI y2 + farI y3 := wI (by omega) (by omega)
  simp
  replace H := H.drew
  simp [c0, c1, c2]
  refine call_r _ (abs_c y1 (by omega)) rfl ?_
  rintro r _ ⟨rfl, rfl⟩
  refine ⟨by simp [promOk, SameCells], ?_⟩
  refine call_r _ (abs_c y2 (by omega)) rfl ?_
  rintro r _ ⟨rfl, rfl⟩
  refine ⟨by simp [promOk, SameCells], ?_⟩
  simp [r3]
  refine callp (abs_c y3 (by omega)) (by simp) ?_
  simp [r3, r4]
  exact H.mod
theorem cls2_c {w : World} (x n a b d : Int) : Calls Try.prog 36 [.int .i64 x, .int .i64 n, .int .i64 a, .int .i64 b, .int .i64 d].toArray w
    (Ret fun r w' => r = .int .i64 (clsI x n a b d) ∧ Mod none' w w') := by
  refine F_sound c36 (by simp [fc36]) ?_
  simp [fc36, s36]
  refine callm (levs2_c x n a b d) (by simp) ?_
  intro w1 M1
  have H := Hp.ofMod M1
  have h1 := lA_bd x n a b d
  have h2 := lB_bd x n a b d
  have h3 := lC_bd x n a b d
  unfold clsI quad
  generalize lA x n a b d = y1 at *
  generalize lB x n a b d = y2 at *
  generalize lC x n a b d = y3 at *
  have f1 := farM_bd (x := y1) (by omega)
  have f2 := farM_bd (x := y2) (by omega)
  have f3 := farM_bd (x := y3) (by omega)
  have r3 : IntKind.i64.wrap (farI y1 + farI y2) = farI y1 + farI y2 := wI (by omega) (by omega)
  have r4 : IntKind.i64.wrap (farI y1 + farI y2 + farI y3) = farI y1 + farI y2 + farI y3 := wI (by omega) (by omega)
  simp
  refine callp (far27_c y1 (by omega)) (by simp) ?_
  simp
  refine callp (far27_c y2 (by omega)) (by simp) ?_
  rw [farW_is (by omega), farW_is (by omega)]
  simp [r3]
  refine callp (far27_c y3 (by omega)) (by simp) ?_
  rw [farW_is (by omega)]
  simp [r3, r4]
  exact H.mod

end Go.Proofs.Ytcljnpodfhgjkaa.VG
