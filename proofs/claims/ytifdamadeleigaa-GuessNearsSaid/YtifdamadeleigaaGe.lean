/-
  Guesses: back, weights, kinds of a tape; the two compared.
-/
import Derived.Test.YtifdamadeleigaaGd
namespace Go.Proofs.Ytifdamadeleigaa.VG
open Go
set_option linter.unusedSimpArgs false
set_option linter.unusedVariables false

set_option maxHeartbeats 2000000 in
theorem back_c {G : Nat → Prop} {w : World} {v kv : Value} {l ks : List Int} (wd h d : Int) (hr : Rd G w v l.length (intsV l)) (hk : Rd G w kv ks.length (intsV ks)) (hl : l.length ≤ 1000000) (hkl : ks.length ≤ 1000000) :
    Calls Try.prog 20 [v, .int .i64 wd, .int .i64 h, .int .i64 d, kv].toArray w (Ret fun r w' => RowErr w w' r (backS l wd h d ks)) := by
  refine F_sound c20 (by simp [fc20]) ?_
  obtain ⟨hS, hL⟩ := hr.sl
  obtain ⟨kS, kL⟩ := hk.sl
  simp [fc20, s20]
  refine callp (plane_ok wd h d hr hl) (by simp) ?_
  unfold backS
  cases hp : planeB l wd h d
  · simp
    refine ifg_r (t := true) (by simp) (fun h => by cases h) (fun _ => ?_)
    simp
    refine ite_r (t := true) (by simp) (fun _ => ?_) (fun h => by cases h)
    simp
    exact RowErr.bad (Mod.refl _ _)
  simp
  refine ifg_r (t := false) (by simp) (fun _ => ?_) (fun h => (h rfl).elim)
  refine callp (kinds_ok h hk hkl) (by simp) ?_
  cases hkb : kindsB ks h
  · simp
    refine ite_r (t := true) (by simp) (fun _ => ?_) (fun h => by cases h)
    simp
    exact RowErr.bad (Mod.refl _ _)
  obtain ⟨W, H', rfl, rfl, hW, hH, hd, hln, hall⟩ := nn_dims hp
  have hkn : ks.length = H' := by
    have := hkb
    simp only [kindsB, Bool.and_eq_true, decide_eq_true_eq] at this
    omega
  have hm0 : W * H' ≤ 64 * 64 := Nat.mul_le_mul hW.2 hH.2
  have hpd := p2_bd (dep_iff.1 hd).2
  simp [hS, hL]
  refine ite_r (t := false) (by simp) (fun h => by cases h) (fun _ => ?_)
  simp [hS, hL]
  refine mkN_h slTI (kl := .i64) (kc := .i64) (n := l.length) (xs := intsV (List.replicate l.length 0)) (Hp.nil w) (by simp [hS, hL]) (by simp [hS, hL]) (by omega) (by unfold maxLen; omega) (fun z hz => by rw [zero64 hz, intsV_zeros]) ?_
  intro rv w1 H M1
  refine ⟨.inl rfl, ?_⟩
  obtain ⟨rS, rL⟩ := (H.rd 0 rfl).sl
  simp [rS, rL]
  refine for_r l.length (fun i env' w' => env' 0 = v ∧ env' 1 = .int .i64 W ∧ env' 3 = .int .i64 d ∧ env' 4 = kv ∧ env' 12 = rv ∧ env' 37 = .int .i64 l.length ∧ env' 38 = .int .i64 i ∧ Hp w w' [.own 3 1 rv l.length (intsV (backTo l W d ks i ++ List.replicate (l.length - i) 0))]) ?_ ?_ ?_
  · simp [rL, backTo]
    exact H
  · rintro i env w' hi ⟨e0, e1, e3, e4, e12, e37, e38, H⟩
    simp [e37, e38]
    refine ite_r (t := true) (by simp; omega) (fun _ => ?_) (fun h => by cases h)
    simp [wp_blk]
    have hx0 : (i : Int).tmod (W : Int) = ((i % W : Nat) : Int) := by rw [Int.tmod_eq_emod_of_nonneg (by omega)]; rfl
    have hy0 : (i : Int).tdiv (W : Int) = ((i / W : Nat) : Int) := by rw [Int.tdiv_eq_ediv_of_nonneg (by omega)]; rfl
    have hwn : W ≠ 0 := by omega
    have hxb : i % W < W := Nat.mod_lt i (by omega)
    have hyb : i / W < H' := Nat.div_lt_of_lt_mul (by omega)
    have hwy0 : ∀ y : Nat, y < 65 → IntKind.i64.wrap (y : Int) = (y : Int) := fun y _ => wI (by omega) (by omega)
    have hwy := hwy0 (i / W) (by omega)
    have hyk : i / W < ks.length := by omega
    have hx1 : (i : Int) % (W : Int) = ((i % W : Nat) : Int) := rfl
    have hy1 : (i : Int) / (W : Int) = ((i / W : Nat) : Int) := rfl
    have hft : backTo l W d ks (i + 1) = backTo l W d ks i ++ [wrapI (gi l i + guessAt (backTo l W d ks i) W d (gi ks (i / W)) (i % W) (i / W)) d] := rfl
    have hbl := backTo_len l W d ks i
    have hiW : i / W * W + i % W = i := by rw [Nat.mul_comm]; exact Nat.div_add_mod i W
    rw [hft]
    generalize i % W = X at *
    generalize i / W = Y at *
    generalize backTo l W d ks i = bt at *
    have hna := near_app bt (List.replicate (l.length - i) 0) W X Y (by omega)
    replace H := H.drew
    simp [e1, e38, hx0, hy0, hwn, hwy]
    have hfl : (bt ++ List.replicate (l.length - i) 0).length = l.length := by simp; omega
    have hrd : Rd (fun k => w.heap.size ≤ k) w'.drew rv (bt ++ List.replicate (l.length - i) 0).length (intsV (bt ++ List.replicate (l.length - i) 0)) := by rw [hfl]; exact H.rd 0 rfl
    refine callm (near_c W X Y hrd) (by simp (disch := omega) [wI, wU, tmod_nn, tdiv_nn, env0_0, env0_1, env0_2, env0_3, env0_4, env0_5, -env0_apply, e1, e12, e38, hx0, hy0, hx1, hy1, hwy]) ?_
    intro w' M'
    replace H := H.same M'
    rw [hna]
    have hg := (hr.at H.mod).gi i hi
    have hp1 := hr.some (by omega)
    have hkg := (hk.at H.mod).gi Y hyk
    have hkp := hk.some (by omega)
    simp [tup4, e4, kS, kL, hkg, hkp, hyk]
    refine callm (one_c' (gi ks Y) (nearI bt W X Y).1 (nearI bt W X Y).2.1 (nearI bt W X Y).2.2.1 (nearI bt W X Y).2.2.2 d) (by simp (disch := omega) [wI, wU, tmod_nn, tdiv_nn, env0_0, env0_1, env0_2, env0_3, env0_4, env0_5, -env0_apply, e3]) ?_
    intro w' M'
    replace H := H.same M'
    have hg := (hr.at H.mod).gi i hi
    have hgl := gi_lt hall i hi
    have hob := one_bd (gi ks Y) (nearI bt W X Y).1 (nearI bt W X Y).2.1 (nearI bt W X Y).2.2.1 (nearI bt W X Y).2.2.2 d
    have hfa : guessAt bt W d (gi ks Y) X Y = oneI (gi ks Y) (nearI bt W X Y).1 (nearI bt W X Y).2.1 (nearI bt W X Y).2.2.1 (nearI bt W X Y).2.2.2 d := rfl
    rw [hfa]
    generalize oneI (gi ks Y) (nearI bt W X Y).1 (nearI bt W X Y).2.1 (nearI bt W X Y).2.2.1 (nearI bt W X Y).2.2.2 d = g at *
    generalize gi l i = s at *
    have w3 : IntKind.i64.wrap (s + g) = s + g := wI (by omega) (by omega)
    simp [e0, hS, hL, hi, hg, hp1, w3]
    refine callp (wrap_c (s + g) d) (by simp [e3, w3]) ?_
    have hpr := (H.rd 0 rfl).ptr (by simp [intsV]; omega)
    simp [e12, e38, rS, rL, hi, hpr.1]
    refine set_h 0 H rfl (i := i) (u := .int .i64 (wrapI (s + g) d)) hi (by simp [e12, e38, rS, rL, hi, hpr.1]) (by simp) (by simp) ?_
    intro w2 H
    refine ⟨.inl rfl, ?_⟩
    have hw1 : IntKind.i64.wrap ((i : Int) + 1) = ((i + 1 : Nat) : Int) := by rw [wI (by omega) (by omega)]; omega
    simp [-Int.natCast_add, hw1, e0, e1, e3, e4, e12, e37, e38]
    have hsf := set_fill (p := bt) (n := l.length) (wrapI (s + g) d) hbl hi
    rw [List.append_assoc] at hsf
    simp only [List.set_cons_zero] at H
    rw [hsf] at H
    exact ⟨by omega, H⟩
  · rintro env w' ⟨e0, e1, e3, e4, e12, e37, e38, H⟩
    simp [e37, e38]
    refine ite_r (t := false) (by simp) (fun h => by cases h) (fun _ => ?_)
    simp [e12]
    refine ⟨_, rfl, ?_⟩
    simp only [backTo_len]
    simpa using H

set_option maxHeartbeats 2000000 in
theorem back2_c {G : Nat → Prop} {w : World} {v kv : Value} {l ks : List Int} (wd h d : Int) (hr : Rd G w v l.length (intsV l)) (hk : Rd G w kv ks.length (intsV ks)) (hl : l.length ≤ 1000000) (hkl : ks.length ≤ 1000000) :
    Calls Try.prog 41 [v, .int .i64 wd, .int .i64 h, .int .i64 d, kv].toArray w (Ret fun r w' => RowErr w w' r (backS l wd h d ks)) := by
  refine F_sound c41 (by simp [fc41]) ?_
  obtain ⟨hS, hL⟩ := hr.sl
  obtain ⟨kS, kL⟩ := hk.sl
  simp [fc41, s41]
  refine callp (plane2_ok wd h d hr hl) (by simp) ?_
  unfold backS
  cases hp : planeB l wd h d
  · simp
    refine ifg_r (t := true) (by simp) (fun h => by cases h) (fun _ => ?_)
    simp
    refine ite_r (t := true) (by simp) (fun _ => ?_) (fun h => by cases h)
    simp
    exact RowErr.bad (Mod.refl _ _)
  simp
  refine ifg_r (t := false) (by simp) (fun _ => ?_) (fun h => (h rfl).elim)
  refine callp (kinds2_ok h hk hkl) (by simp) ?_
  cases hkb : kindsB ks h
  · simp
    refine ite_r (t := true) (by simp) (fun _ => ?_) (fun h => by cases h)
    simp
    exact RowErr.bad (Mod.refl _ _)
  obtain ⟨W, H', rfl, rfl, hW, hH, hd, hln, hall⟩ := nn_dims hp
  have hkn : ks.length = H' := by
    have := hkb
    simp only [kindsB, Bool.and_eq_true, decide_eq_true_eq] at this
    omega
  have hm0 : W * H' ≤ 64 * 64 := Nat.mul_le_mul hW.2 hH.2
  have hpd := p2_bd (dep_iff.1 hd).2
  simp
  refine ite_r (t := false) (by simp) (fun h => by cases h) (fun _ => ?_)
  simp
  refine for_r l.length (fun i env' w' => env' 0 = v ∧ env' 1 = .int .i64 W ∧ env' 3 = .int .i64 d ∧ env' 4 = kv ∧ env' 13 = .int .i64 i ∧ Hp w w' [.own 3 1 (env' 12) i (intsV (backTo l W d ks i))]) ?_ ?_ ?_
  · simp [backTo]
    exact (Hp.nil w).nilS
  · rintro i env w' hi ⟨e0, e1, e3, e4, e13, H⟩
    simp [e0, e13, hS, hL]
    refine ite_r (t := true) (by simp; omega) (fun _ => ?_) (fun h => by cases h)
    simp [wp_blk]
    have hx0 : (i : Int).tmod (W : Int) = ((i % W : Nat) : Int) := by rw [Int.tmod_eq_emod_of_nonneg (by omega)]; rfl
    have hy0 : (i : Int).tdiv (W : Int) = ((i / W : Nat) : Int) := by rw [Int.tdiv_eq_ediv_of_nonneg (by omega)]; rfl
    have hwn : W ≠ 0 := by omega
    have hxb : i % W < W := Nat.mod_lt i (by omega)
    have hyb : i / W < H' := Nat.div_lt_of_lt_mul (by omega)
    have hwy0 : ∀ y : Nat, y < 65 → IntKind.i64.wrap (y : Int) = (y : Int) := fun y _ => wI (by omega) (by omega)
    have hwy := hwy0 (i / W) (by omega)
    have hyk : i / W < ks.length := by omega
    have hx1 : (i : Int) % (W : Int) = ((i % W : Nat) : Int) := rfl
    have hy1 : (i : Int) / (W : Int) = ((i / W : Nat) : Int) := rfl
    have hft : backTo l W d ks (i + 1) = backTo l W d ks i ++ [wrapI (gi l i + guessAt (backTo l W d ks i) W d (gi ks (i / W)) (i % W) (i / W)) d] := rfl
    have hbl := backTo_len l W d ks i
    have hiW : i / W * W + i % W = i := by rw [Nat.mul_comm]; exact Nat.div_add_mod i W
    rw [hft]
    generalize i % W = X at *
    generalize i / W = Y at *
    generalize backTo l W d ks i = bt at *
    replace H := H.drew
    simp [e0, e1, e13, hx0, hy0, hwn, hwy]
    have hrd := H.rd 0 rfl
    rw [← hbl] at hrd
    refine callm (near2_c W X Y hrd) (by simp (disch := omega) [wI, wU, tmod_nn, tdiv_nn, env0_0, env0_1, env0_2, env0_3, env0_4, env0_5, -env0_apply, e0, e1, e13, hx0, hy0, hx1, hy1, hwy]) ?_
    intro w' M'
    replace H := H.same M'
    replace H := H.drew
    have hg := (hr.at H.mod).gi i hi
    have hp1 := hr.some (by omega)
    have hkg := (hk.at H.mod).gi Y hyk
    have hkp := hk.some (by omega)
    have hg0 := hg
    simp only [cell_drew] at hg hkg
    simp [tup4, e0, e1, e4, e13, hS, hL, hi, hg, hp1, hwn, hy0, hwy, kS, kL, hkg, hkp, hyk]
    refine call_r _ (one2_c (gi ks Y) (nearI bt W X Y).1 (nearI bt W X Y).2.1 (nearI bt W X Y).2.2.1 (nearI bt W X Y).2.2.2 d) (by simp [e3]) ?_
    rintro r w4 ⟨rfl, M4⟩
    have hg4 := M4.cell hg0 (fun h => h)
    replace H := H.same M4
    refine ⟨by simp [promOk, e0, e13]; exact same_one hg0 hg4, ?_⟩
    have hgl := gi_lt hall i hi
    have hob := one_bd (gi ks Y) (nearI bt W X Y).1 (nearI bt W X Y).2.1 (nearI bt W X Y).2.2.1 (nearI bt W X Y).2.2.2 d
    have hfa : guessAt bt W d (gi ks Y) X Y = oneI (gi ks Y) (nearI bt W X Y).1 (nearI bt W X Y).2.1 (nearI bt W X Y).2.2.1 (nearI bt W X Y).2.2.2 d := rfl
    rw [hfa]
    generalize oneI (gi ks Y) (nearI bt W X Y).1 (nearI bt W X Y).2.1 (nearI bt W X Y).2.2.1 (nearI bt W X Y).2.2.2 d = g at *
    generalize gi l i = s at *
    have w3 : IntKind.i64.wrap (s + g) = s + g := wI (by omega) (by omega)
    simp [w3]
    refine callp (wrap2_c (s + g) d) (by simp [e3, w3]) ?_
    simp
    refine app1_h slTI 0 H rfl (u := .int .i64 (wrapI (s + g) d)) (by simp) (by omega) (by unfold maxLen; omega) (by simp) (by simp) (by simp) (by simp) ?_
    intro vb v' w5 w6 H
    refine ⟨.inl rfl, ?_⟩
    have hw1 : IntKind.i64.wrap ((i : Int) + 1) = ((i + 1 : Nat) : Int) := by rw [wI (by omega) (by omega)]; omega
    simp [-Int.natCast_add, hw1, e0, e1, e3, e4, e13]
    rw [intsV_snoc] at H
    exact ⟨by omega, H⟩
  · rintro env w' ⟨e0, e1, e3, e4, e13, H⟩
    simp [e0, e13, hS, hL]
    refine ite_r (t := false) (by simp) (fun h => by cases h) (fun _ => ?_)
    simp
    refine ⟨_, rfl, ?_⟩
    simp only [backTo_len]
    exact H

def wtTo (l : List Int) (d : Int) : Nat → Int
  | 0 => 0
  | i + 1 => wtTo l d i + farI (foldI (gi l i) d)
def wtI (l : List Int) (d : Int) : Int := wtTo l d l.length
theorem fold_bd (v d : Int) : -32768 ≤ foldI v d ∧ foldI v d ≤ 65535 := by
  unfold foldI
  split
  · rename_i hd
    have hd' := dep_iff.1 hd
    have h1 := mod_bd v hd'.2
    have h2 := p2_bd hd'.2
    have h3 := p2_two hd'.1
    split <;> omega
  · omega
theorem far_bd {x : Int} (h : -65536 ≤ x ∧ x ≤ 65536) : 0 ≤ farI x ∧ farI x ≤ 65536 := by unfold farI; split <;> omega
theorem wtTo_bd (l : List Int) (d : Int) : ∀ i : Nat, 0 ≤ wtTo l d i ∧ wtTo l d i ≤ 65536 * (i : Int)
  | 0 => by simp [wtTo]
  | i + 1 => by
    have h1 := wtTo_bd l d i
    have h2 := fold_bd (gi l i) d
    have h3 := far_bd (x := foldI (gi l i) d) (by omega)
    simp only [wtTo]; omega

theorem weight_c {G : Nat → Prop} {w : World} {v : Value} {l : List Int} (d : Int) (hr : Rd G w v l.length (intsV l)) (hl : l.length ≤ 1000000) : Calls Try.prog 23 [v, .int .i64 d].toArray w (Ret fun r w' => r = .int .i64 (wtI l d) ∧ w' = w) := by
  refine F_sound c23 (by simp [fc23]) ?_
  obtain ⟨hS, hL⟩ := hr.sl
  simp [fc23, s23, hS, hL]
  refine for_r l.length (fun i env' w' => env' 1 = .int .i64 d ∧ env' 5 = .int .i64 (wtTo l d i) ∧ env' 8 = v ∧ env' 9 = .int .i64 l.length ∧ env' 10 = .int .i64 i ∧ w' = w) ?_ ?_ ?_
  · simp [wtTo]
  · rintro i env w hi ⟨e1, e5, e8, e9, e10, rfl⟩
    have hc := hr.gi i hi
    have hp := hr.some (by omega)
    have hb := wtTo_bd l d i
    have h2 := fold_bd (gi l i) d
    have h3 := far_bd (x := foldI (gi l i) d) (by omega)
    simp [e9, e10]
    refine ite_r (t := true) (by simp [hi]) (fun _ => ?_) (fun h => by cases h)
    simp [wp_blk, e8, e10, hS, hL, hp, hc, hi]
    refine callp (fold_c' (gi l i) d) (by simp [e1]) ?_
    refine callp (dist_c (foldI (gi l i) d) 0 (by omega) (by omega)) (by simp) ?_
    simp
    have hw1 : IntKind.i64.wrap ((i : Int) + 1) = ((i + 1 : Nat) : Int) := by rw [wI (by omega) (by omega)]; omega
    have hw2 : IntKind.i64.wrap (wtTo l d i + farI (foldI (gi l i) d)) = wtTo l d (i + 1) := wI (by omega) (by omega)
    simp [-Int.natCast_add, hw1, hw2, e1, e5, e8, e9, e10]
    omega
  · rintro env w ⟨e1, e5, e8, e9, e10, rfl⟩
    simp [e9, e10]
    refine ite_r (t := false) (by simp) (fun h => by cases h) (fun _ => ?_)
    simp [e5, wtI]
theorem weight2_c {G : Nat → Prop} {w : World} {v : Value} {l : List Int} (d : Int) (hr : Rd G w v l.length (intsV l)) (hl : l.length ≤ 1000000) : Calls Try.prog 26 [v, .int .i64 d].toArray w (Ret fun r w' => r = .int .i64 (wtI l d) ∧ w' = w) := by
  refine F_sound c26 (by simp [fc26]) ?_
  obtain ⟨hS, hL⟩ := hr.sl
  simp [fc26, s26]
  refine for_r l.length (fun i env' w' => env' 0 = v ∧ env' 1 = .int .i64 d ∧ env' 5 = .int .i64 (wtTo l d i) ∧ env' 6 = .int .i64 i ∧ w' = w) ?_ ?_ ?_
  · simp [wtTo]
  · rintro i env w hi ⟨e0, e1, e5, e6, rfl⟩
    have hc := hr.gi i hi
    have hp := hr.some (by omega)
    have hb := wtTo_bd l d i
    have h2 := fold_bd (gi l i) d
    have h3 := far_bd (x := foldI (gi l i) d) (by omega)
    simp [e0, e6, hS, hL]
    refine ite_r (t := true) (by simp [hi]) (fun _ => ?_) (fun h => by cases h)
    simp [wp_blk, e0, e6, hS, hL, hp, hc, hi]
    refine callp (fold2_c' (gi l i) d) (by simp [e1]) ?_
    refine callp (far2_c (foldI (gi l i) d) (by omega)) (by simp) ?_
    simp
    have hw1 : IntKind.i64.wrap ((i : Int) + 1) = ((i + 1 : Nat) : Int) := by rw [wI (by omega) (by omega)]; omega
    have hw2 : IntKind.i64.wrap (wtTo l d i + farI (foldI (gi l i) d)) = wtTo l d (i + 1) := wI (by omega) (by omega)
    simp [-Int.natCast_add, hw1, hw2, e0, e1, e5, e6]
    omega
  · rintro env w ⟨e0, e1, e5, e6, rfl⟩
    simp [e0, e6, hS, hL]
    refine ite_r (t := false) (by simp) (fun h => by cases h) (fun _ => ?_)
    simp [e5, wtI]

theorem foreS_len {l ks : List Int} {w h d : Int} (hl : l.length ≤ 1000000) : (foreS l w h d ks).1.length ≤ 1000000 := by
  unfold foreS; split
  · simp only [foreTo_len]; exact hl
  · simp
theorem backS_len {l ks : List Int} {w h d : Int} (hl : l.length ≤ 1000000) : (backS l w h d ks).1.length ≤ 1000000 := by
  unfold backS; split
  · simp only [backTo_len]; exact hl
  · simp
set_option maxHeartbeats 1000000 in
theorem gsame_c {G : Nat → Prop} {w : World} {v kv : Value} {l ks : List Int} (wd h d : Int) (hr : Rd G w v l.length (intsV l)) (hk : Rd G w kv ks.length (intsV ks)) (hl : l.length ≤ 1000000) (hkl : ks.length ≤ 1000000) :
    Calls Try.prog 24 [v, .int .i64 wd, .int .i64 h, .int .i64 d, kv].toArray w (Ret fun r w' => r = .bool true ∧ Mod none' w w') := by
  refine F_sound c24 (by simp [fc24]) ?_
  simp [fc24, s24]
  have l1 := foreS_len (l := l) (ks := ks) (w := wd) (h := h) (d := d) hl
  have l2 := backS_len (l := l) (ks := ks) (w := wd) (h := h) (d := d) hl
  refine call_h (fore_c wd h d hr hk hl hkl) (by simp) ?_
  rintro r w1 ⟨u1, rfl, H⟩
  simp
  refine call_h (fore2_c wd h d (hr.at H.mod) (hk.at H.mod) hl hkl) (by simp) ?_
  rintro r w2 ⟨u2, rfl, HR⟩
  replace H := H.join HR
  simp
  refine call_h (back_c wd h d (hr.at H.mod) (hk.at H.mod) hl hkl) (by simp) ?_
  rintro r w3 ⟨u3, rfl, HR⟩
  replace H := H.join HR
  simp
  refine call_h (back2_c wd h d (hr.at H.mod) (hk.at H.mod) hl hkl) (by simp) ?_
  rintro r w4 ⟨u4, rfl, HR⟩
  replace H := H.join HR
  simp
  refine callm (ints_c (l := (foreS l wd h d ks).1) (m := (foreS l wd h d ks).1) (H.rd 0 rfl) (H.rd 1 rfl) (by unfold maxLen; omega)) (by simp (disch := omega) [wI, wU, tmod_nn, tdiv_nn, env0_0, env0_1, env0_2, env0_3, env0_4, env0_5, -env0_apply]) ?_
  intro w' M'
  replace H := H.same M'
  simp
  refine ifg_r (t := true) (by simp) (fun _ => ?_) (fun h => (h rfl).elim)
  refine callm (ints_c (l := (backS l wd h d ks).1) (m := (backS l wd h d ks).1) (H.rd 2 rfl) (H.rd 3 rfl) (by unfold maxLen; omega)) (by simp (disch := omega) [wI, wU, tmod_nn, tdiv_nn, env0_0, env0_1, env0_2, env0_3, env0_4, env0_5, -env0_apply]) ?_
  intro w' M'
  replace H := H.same M'
  simp
  exact H.mod

end Go.Proofs.Ytifdamadeleigaa.VG
