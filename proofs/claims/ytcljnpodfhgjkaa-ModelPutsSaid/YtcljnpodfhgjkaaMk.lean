/-
  Model: planes, looks.
-/
import Derived.Test.YtcljnpodfhgjkaaMj
import Derived.Test.YtcljnpodfhgjkaaMh
import Derived.Test.YtcljnpodfhgjkaaGd
import Derived.Test.YtcljnpodfhgjkaaRe
namespace Go.Proofs.Ytcljnpodfhgjkaa.VG
open Go
set_option linter.unusedSimpArgs false
set_option linter.unusedVariables false
set_option maxRecDepth 20000

set_option maxHeartbeats 1000000 in
theorem plane26_ok {G : Nat → Prop} {w : World} {v : Value} {l : List Int} (wd h d : Int) (hr : Rd G w v l.length (intsV l)) (hl : l.length ≤ 1000000) : Calls Try.prog 49 [v, .int .i64 wd, .int .i64 h, .int .i64 d].toArray w (Ret fun r w' => r = .bool (planeB l wd h d) ∧ w' = w) := by
  refine F_sound c49 (by simp [fc49]) ?_
  obtain ⟨hS, hL⟩ := hr.sl
  simp [fc49, s49]
  have hno : ¬ ((1 ≤ wd ∧ wd ≤ 64) ∧ (1 ≤ h ∧ h ≤ 64) ∧ dep d = true) → planeB l wd h d = false := fun hb => by
    rcases Bool.eq_false_or_eq_true (planeB l wd h d) with hp | hp
    · obtain ⟨h1, h2, h3, _⟩ := planeB_iff.1 hp
      exact absurd ⟨h1, h2, h3⟩ hb
    · exact hp
  by_cases hb : (1 ≤ wd ∧ wd ≤ 64) ∧ (1 ≤ h ∧ h ≤ 64)
  rotate_left
  · rw [hno (fun h => hb ⟨h.1, h.2.1⟩)]
    refine ifg_r (t := true) (by simp; omega) (fun h => by cases h) (fun _ => ?_)
    simp
    refine ⟨fun h1 h2 h3 h4 => (hb ⟨⟨h1, h2⟩, h3, h4⟩).elim, ?_⟩
    refine ite_r (t := true) (by simp; omega) (fun _ => ?_) (fun h => by cases h)
    simp
  obtain ⟨hw, hh⟩ := hb
  refine ifg_r (t := false) (by simp; omega) (fun _ => ?_) (fun h => (h rfl).elim)
  refine callp (valid_c d) (by simp) ?_
  cases hd1 : dep d
  · rw [hno (fun h => by rw [hd1] at h; cases h.2.2)]
    simp
    refine ite_r (t := true) (by simp) (fun _ => ?_) (fun h => by cases h)
    simp
  have hd := dep_iff.1 hd1
  have hm := mul64 hw hh
  have w1 : IntKind.i64.wrap (wd * h) = wd * h := wI (by omega) (by omega)
  have hp := p2_bd hd.2
  have hs := shl_p2 (d := d) (by omega) (by omega)
  have e : planeB l wd h d = (decide ((l.length : Int) = wd * h) && l.all (inD d)) := by simp [planeB, hw, hh, hd1]
  rw [e]
  simp
  refine ite_r (t := false) (by simp; omega) (fun h => by cases h) (fun _ => ?_)
  simp [hS, hL, w1]
  by_cases hln : (l.length : Int) = wd * h
  rotate_left
  · refine ite_r (t := true) (by simp [hln]) (fun _ => ?_) (fun h => by cases h)
    simp [hln]
  refine ite_r (t := false) (by simp [hln]) (fun h => by cases h) (fun _ => ?_)
  simp [hS, hL, hln]
  rw [← hln]
  refine for_r l.length (fun i env' w' => env' 3 = .int .i64 d ∧ env' 36 = v ∧ env' 37 = .int .i64 l.length ∧ env' 38 = .int .i64 i ∧ (l.take i).all (inD d) = true ∧ w' = w) ?_ ?_ ?_
  · simp [hL, hln]
  · rintro i env w' hi ⟨e3, e39, e40, e41, hall, rfl⟩
    simp [e40, e41]
    refine ite_r (t := true) (by simp; omega) (fun _ => ?_) (fun h => by cases h)
    simp [wp_blk]
    have hg := hr.gi i hi
    have hp1 := hr.some (by omega)
    simp [e3, e39, e41, hS, hL, hi, hg, hp1, hs]
    have hat := all_step hall hi
    have hno := @all_stop (inD d) l i hi
    generalize gi l i = x at *
    have hw1 : IntKind.i64.wrap ((i : Int) + 1) = ((i + 1 : Nat) : Int) := by rw [wI (by omega) (by omega)]; omega
    refine ⟨fun _ => by omega, ?_⟩
    cases hx : inD d x
    · have : ¬ (0 ≤ x ∧ x < p2 d) := by rw [← inD_iff, hx]; simp
      refine ite_r (t := true) (by simp; omega) (fun _ => ?_) (fun h => by cases h)
      simp
      have := hno hx
      simpa using this
    · have := inD_iff.1 hx
      refine ite_r (t := false) (by simp; omega) (fun h => by cases h) (fun _ => ?_)
      simp [-Int.natCast_add, hw1, e3, e39, e40, e41]
      rw [← List.all_eq_true, hat, hx]
      exact ⟨by omega, rfl⟩
  · rintro env w' ⟨e3, e39, e40, e41, hall, rfl⟩
    simp [e40, e41]
    refine ite_r (t := false) (by simp) (fun h => by cases h) (fun _ => ?_)
    simp
    rw [List.take_length] at hall
    simpa using hall

/-- The context of a place, turned or not; what is guessed there. -/
def lookC (l : List Int) (W i : Nat) (d : Int) : Int := ctxI (nearI l W (i % W : Nat) (i / W : Nat)).1 (nearI l W (i % W : Nat) (i / W : Nat)).2.1 (nearI l W (i % W : Nat) (i / W : Nat)).2.2.1 (nearI l W (i % W : Nat) (i / W : Nat)).2.2.2 d
def lookG (f : Nat → Int) (l : List Int) (W i : Nat) : Int := gueI f (farI (lookC l W i (f 0))) (guessAt l W (f 0) 7 (i % W) (i / W)) (decide (lookC l W i (f 0) < 0))
def lookV (f : Nat → Int) (l : List Int) (W i : Nat) : Value := .tuple #[.int .i64 (farI (lookC l W i (f 0))), .bool (decide (lookC l W i (f 0) < 0)), .int .i64 (lookG f l W i)]
theorem modW {W i : Nat} (hW : 1 ≤ W ∧ W ≤ 64) (hi : i ≤ 1000000) : ((i : Int).tmod (W : Int) = ((i % W : Nat) : Int)) ∧ ((i : Int).tdiv (W : Int) = ((i / W : Nat) : Int)) ∧ IntKind.i64.wrap ((i / W : Nat) : Int) = ((i / W : Nat) : Int) ∧ IntKind.i64.wrap ((i % W : Nat) : Int) = ((i % W : Nat) : Int) := by
  have h1 : i / W ≤ i := Nat.div_le_self _ _
  have h2 : i % W ≤ i := Nat.mod_le _ _
  refine ⟨rfl, rfl, ?_, ?_⟩
  · generalize i / W = q at *; exact wI (by omega) (by omega)
  · generalize i % W = q at *; exact wI (by omega) (by omega)
theorem look_c26 {G : Nat → Prop} {w : World} {t : Nat} {f : Nat → Int} {v : Value} {l : List Int} (h : Md w t f) (hf : Wf f) (hr : Rd G w v l.length (intsV l)) {W i : Nat} (hW : 1 ≤ W ∧ W ≤ 64) (hi : i ≤ 1000000) :
    Calls Try.prog 50 [.pointer (some ⟨t, 0, none⟩), v, .int .i64 W, .int .i64 i].toArray w (Ret fun r w' => r = lookV f l W i ∧ Mod none' w w') := by
  refine F_sound c50 (by simp [fc50]) ?_
  obtain ⟨m1, m2, m3, m4⟩ := modW hW hi
  simp [-Int.natCast_ediv, -Int.natCast_emod, fc50, s50, m1, m2, m3, m4]
  refine ⟨by omega, ?_⟩
  refine callm (near_c W (i % W : Nat) (i / W : Nat) (hr.at (Mod.refl _ w).drew)) (by simp [-Int.natCast_ediv, -Int.natCast_emod, m1, m2, m3, m4]) ?_
  intro w1 M1
  have H := Hp.ofMod ((Mod.refl _ w).drew.tr M1)
  unfold lookV lookG lookC guessAt
  generalize nearI l W (i % W : Nat) (i / W : Nat) = q
  obtain ⟨x, n, a, b⟩ := q
  have cz := (h.at H.mod).cell (o := 0) (by omega)
  simp [tup4, cz]
  refine callm (ctx_c x n a b (f 0)) (by simp) ?_
  intro w2 M2
  replace H := H.same M2
  have cz := (h.at H.mod).cell (o := 0) (by omega)
  simp [ctxV, cz]
  refine callm (one_c' 7 x n a b (f 0)) (by simp) ?_
  intro w3 M3
  replace H := H.same M3
  refine callm (gue_c (h.at H.mod) hf (farI (ctxI x n a b (f 0))) (oneI 7 x n a b (f 0)) (decide (ctxI x n a b (f 0) < 0))) (by simp) ?_
  intro w4 M4
  simp
  exact H.mod.tr M4
theorem seen_c {G : Nat → Prop} {w : World} {t : Nat} {f : Nat → Int} {v : Value} {l : List Int} (h : Md w t f) (hf : Wf f) (hr : Rd G w v l.length (intsV l)) {W i : Nat} (hW : 1 ≤ W ∧ W ≤ 64) (hi : i ≤ 1000000) :
    Calls Try.prog 75 [.pointer (some ⟨t, 0, none⟩), v, .int .i64 W, .int .i64 i].toArray w (Ret fun r w' => r = lookV f l W i ∧ Mod none' w w') := by
  refine F_sound c75 (by simp [fc75]) ?_
  obtain ⟨m1, m2, m3, m4⟩ := modW hW hi
  simp [-Int.natCast_ediv, -Int.natCast_emod, fc75, s75, m1, m2, m3, m4]
  refine ⟨by omega, ?_⟩
  refine callm (near2_c W (i % W : Nat) (i / W : Nat) (hr.at (Mod.refl _ w).drew)) (by simp [-Int.natCast_ediv, -Int.natCast_emod, m1, m2, m3, m4]) ?_
  intro w1 M1
  have H := Hp.ofMod ((Mod.refl _ w).drew.tr M1)
  unfold lookV lookG lookC guessAt
  generalize nearI l W (i % W : Nat) (i / W : Nat) = q
  obtain ⟨x, n, a, b⟩ := q
  have cz := (h.at H.mod).cell (o := 0) (by omega)
  simp [tup4, cz]
  refine callm (ctx2_c x n a b (f 0)) (by simp) ?_
  intro w2 M2
  replace H := H.same M2
  have cz := (h.at H.mod).cell (o := 0) (by omega)
  simp [ctxV, cz]
  refine callm (one2_c 7 x n a b (f 0)) (by simp) ?_
  intro w3 M3
  replace H := H.same M3
  refine callm (gue2_c (h.at H.mod) hf (farI (ctxI x n a b (f 0))) (oneI 7 x n a b (f 0)) (decide (ctxI x n a b (f 0) < 0))) (by simp) ?_
  intro w4 M4
  simp
  exact H.mod.tr M4

end Go.Proofs.Ytcljnpodfhgjkaa.VG
