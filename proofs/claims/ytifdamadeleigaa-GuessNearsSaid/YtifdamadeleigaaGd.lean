/-
  Guesses: fore, back: each by the program and by the document.
-/
import Derived.Test.YtifdamadeleigaaGc
namespace Go.Proofs.Ytifdamadeleigaa.VG
open Go
set_option linter.unusedSimpArgs false
set_option linter.unusedVariables false

/-- What is guessed at a place, from a row. -/
def guessAt (l : List Int) (W : Nat) (d k : Int) (x y : Nat) : Int := oneI k (nearI l W x y).1 (nearI l W x y).2.1 (nearI l W x y).2.2.1 (nearI l W x y).2.2.2 d
def foreAt (l : List Int) (W : Nat) (d k : Int) (x y : Nat) : Int := wrapI (gi l (y * W + x) - guessAt l W d k x y) d
def rowTo (l : List Int) (W : Nat) (d k : Int) (y : Nat) : Nat → List Int
  | 0 => []
  | x + 1 => rowTo l W d k y x ++ [foreAt l W d k x y]
def foreRows (l : List Int) (W : Nat) (d : Int) (ks : List Int) : Nat → List Int
  | 0 => []
  | y + 1 => foreRows l W d ks y ++ rowTo l W d (gi ks y) y W
def foreTo (l : List Int) (W : Nat) (d : Int) (ks : List Int) : Nat → List Int
  | 0 => []
  | i + 1 => foreTo l W d ks i ++ [foreAt l W d (gi ks (i / W)) (i % W) (i / W)]
def backTo (l : List Int) (W : Nat) (d : Int) (ks : List Int) : Nat → List Int
  | 0 => []
  | i + 1 => backTo l W d ks i ++ [wrapI (gi l i + guessAt (backTo l W d ks i) W d (gi ks (i / W)) (i % W) (i / W)) d]
theorem rowTo_len (l : List Int) (W : Nat) (d k : Int) (y : Nat) : ∀ x, (rowTo l W d k y x).length = x
  | 0 => rfl
  | x + 1 => by simp [rowTo, rowTo_len l W d k y x]
theorem foreTo_len (l : List Int) (W : Nat) (d : Int) (ks : List Int) : ∀ i, (foreTo l W d ks i).length = i
  | 0 => rfl
  | i + 1 => by simp [foreTo, foreTo_len l W d ks i]
theorem backTo_len (l : List Int) (W : Nat) (d : Int) (ks : List Int) : ∀ i, (backTo l W d ks i).length = i
  | 0 => rfl
  | i + 1 => by simp [backTo, backTo_len l W d ks i]
theorem foreRows_is (l : List Int) {W : Nat} (hW : 0 < W) (d : Int) (ks : List Int) : ∀ y, foreRows l W d ks y = foreTo l W d ks (y * W)
  | 0 => by simp [foreRows, foreTo]
  | y + 1 => by
    have ih := foreRows_is l hW d ks y
    have key : ∀ x, x ≤ W → foreTo l W d ks (y * W + x) = foreTo l W d ks (y * W) ++ rowTo l W d (gi ks y) y x := by
      intro x
      induction x with
      | zero => intro _; simp [rowTo]
      | succ x ihx =>
        intro hx
        have h1 : (y * W + x) / W = y := by rw [Nat.mul_comm, Nat.mul_add_div hW, Nat.div_eq_of_lt (by omega)]; rfl
        have h2 : (y * W + x) % W = x := by rw [Nat.mul_comm, Nat.mul_add_mod, Nat.mod_eq_of_lt (by omega)]
        rw [← Nat.add_assoc, foreTo, ihx (by omega), h1, h2, rowTo, List.append_assoc]
    rw [foreRows, ih, Nat.succ_mul, key W (Nat.le_refl _)]
def foreS (l : List Int) (w h d : Int) (ks : List Int) : List Int × Int := if planeB l w h d = true ∧ kindsB ks h = true then (foreTo l w.toNat d ks l.length, 0) else ([], 1)
def backS (l : List Int) (w h d : Int) (ks : List Int) : List Int × Int := if planeB l w h d = true ∧ kindsB ks h = true then (backTo l w.toNat d ks l.length, 0) else ([], 1)

/-- What is guessed is small. -/
theorem near3_is (g w n a : Int) : near3 g w n a = w ∨ near3 g w n a = n ∨ near3 g w n a = a := by
  unfold near3
  split
  · exact .inl rfl
  · split
    · exact .inr (.inl rfl)
    · exact .inr (.inr rfl)
theorem mn_is (a b : Int) : mnI a b ≤ a ∧ mnI a b ≤ b ∧ (mnI a b = a ∨ mnI a b = b) := by unfold mnI; split <;> omega
theorem mx_is (a b : Int) : a ≤ mxI a b ∧ b ≤ mxI a b ∧ (mxI a b = a ∨ mxI a b = b) := by unfold mxI; split <;> omega
theorem one_in {k w n a b d : Int} (hd : dep d = true) (hall : ([w, n, a, b] : List Int).all (inD d) = true) : 0 ≤ oneI k w n a b d ∧ oneI k w n a b d < p2 d := by
  have hp := p2_bd (dep_iff.1 hd).2
  have h4 := all4.1 hall
  have h3 := near3_is (w + n - a) w n a
  have m1 := mn_is w n
  have m2 := mx_is w n
  have m3 := mn_is (mxI w n) (w + n - a)
  have m4 := mx_is (mnI w n) (mnI (mxI w n) (w + n - a))
  have m5 := mx_is (w + n - a) 0
  have m6 := mn_is (mxI (w + n - a) 0) (p2 d - 1)
  unfold oneI
  generalize near3 (w + n - a) w n a = r3 at *
  generalize mxI (mnI w n) (mnI (mxI w n) (w + n - a)) = r7 at *
  generalize mnI (mxI (w + n - a) 0) (p2 d - 1) = r8 at *
  generalize mxI (w + n - a) 0 = q1 at *
  generalize mnI (mxI w n) (w + n - a) = q2 at *
  generalize mxI w n = q3 at *
  generalize mnI w n = q4 at *
  by_cases hk : (0 ≤ k ∧ k ≤ 9) ∧ dep d = true ∧ ([w, n, a, b] : List Int).all (inD d) = true
  · rw [if_pos hk]
    by_cases k1 : k = 1
    · rw [if_pos k1]; omega
    rw [if_neg k1]
    by_cases k2 : k = 2
    · rw [if_pos k2]; omega
    rw [if_neg k2]
    by_cases k3 : k = 3
    · rw [if_pos k3]; omega
    rw [if_neg k3]
    by_cases k4 : k = 4
    · rw [if_pos k4]; omega
    rw [if_neg k4]
    by_cases k5 : k = 5
    · rw [if_pos k5]; omega
    rw [if_neg k5]
    by_cases k6 : k = 6
    · rw [if_pos k6]; omega
    rw [if_neg k6]
    by_cases k7 : k = 7
    · rw [if_pos k7]; omega
    rw [if_neg k7]
    by_cases k8 : k = 8
    · rw [if_pos k8]; omega
    rw [if_neg k8]
    by_cases k9 : k = 9
    · rw [if_pos k9]; omega
    rw [if_neg k9]; omega
  · rw [if_neg hk]; omega
theorem one_bd (k w n a b d : Int) : 0 ≤ oneI k w n a b d ∧ oneI k w n a b d ≤ 65535 := by
  by_cases h : (0 ≤ k ∧ k ≤ 9) ∧ dep d = true ∧ ([w, n, a, b] : List Int).all (inD d) = true
  · have := one_in (k := k) h.2.1 h.2.2
    have hp := p2_bd (dep_iff.1 h.2.1).2
    omega
  · rw [oneI, if_neg h]; omega
/-- Only what comes ahead counts. -/
theorem near_app (p q : List Int) (W x y : Nat) (h : y * W + x ≤ p.length) : nearI (p ++ q) W x y = nearI p W x y := by
  unfold nearI
  have e : (y : Int) * (W : Int) = ((y * W : Nat) : Int) := by rw [Int.natCast_mul]
  have hW : 0 < y → W ≤ y * W := fun h => Nat.le_mul_of_pos_left W h
  have hy0 : y = 0 → y * W = 0 := fun h => by rw [h, Nat.zero_mul]
  by_cases hr : ((1 ≤ (W : Int) ∧ (W : Int) ≤ 64) ∧ (0 ≤ (x : Int) ∧ (x : Int) < W) ∧ 0 ≤ (y : Int) ∧ (y : Int) < 64)
  rotate_left
  · rw [if_neg (fun h => hr h.1), if_neg (fun h => hr h.1)]
  have c1 : ((1 ≤ (W : Int) ∧ (W : Int) ≤ 64) ∧ (0 ≤ (x : Int) ∧ (x : Int) < W) ∧ 0 ≤ (y : Int) ∧ (y : Int) < 64) ∧ (y : Int) * W + x ≤ (p ++ q).length := ⟨hr, by rw [e]; simp; omega⟩
  have c2 : ((1 ≤ (W : Int) ∧ (W : Int) ≤ 64) ∧ (0 ≤ (x : Int) ∧ (x : Int) < W) ∧ 0 ≤ (y : Int) ∧ (y : Int) < 64) ∧ (y : Int) * W + x ≤ p.length := ⟨hr, by rw [e]; omega⟩
  rw [if_pos c1, if_pos c2, e]
  generalize hM : y * W = M at *
  have hg : ∀ i : Int, 0 ≤ i → i < (M : Int) + x → gi (p ++ q) i.toNat = gi p i.toNat := fun i h0 h1 => gi_app_left p q _ (by omega)
  by_cases hy : (y : Int) = 0
  · rw [if_pos hy, if_pos hy]
    by_cases hx : (x : Int) = 0
    · rw [if_pos hx, if_pos hx]
    · rw [if_neg hx, if_neg hx, hg _ (by omega) (by omega)]
  · have hW1 := hW (by omega)
    rw [if_neg hy, if_neg hy, hg ((M : Int) + x - W) (by omega) (by omega)]
    by_cases hx : 0 < (x : Int)
    · rw [if_pos hx, if_pos hx, if_pos hx, if_pos hx, hg ((M : Int) + x - 1) (by omega) (by omega), hg ((M : Int) + x - W - 1) (by omega) (by omega)]
      by_cases hx2 : (x : Int) < W - 1
      · rw [if_pos hx2, if_pos hx2, hg ((M : Int) + x - W + 1) (by omega) (by omega)]
      · rw [if_neg hx2, if_neg hx2]
    · rw [if_neg hx, if_neg hx, if_neg hx, if_neg hx]
      by_cases hx2 : (x : Int) < W - 1
      · rw [if_pos hx2, if_pos hx2, hg ((M : Int) + x - W + 1) (by omega) (by omega)]
      · rw [if_neg hx2, if_neg hx2]
theorem gi_lt {l : List Int} {d : Int} (h : l.all (inD d) = true) (i : Nat) (hi : i < l.length) : 0 ≤ gi l i ∧ gi l i < p2 d := by
  rw [List.all_eq_true] at h
  exact inD_iff.1 (h _ (gi_mem l i hi))

theorem set_fill {p : List Int} {i n : Nat} (v : Int) (hp : p.length = i) (hi : i < n) : (intsV (p ++ List.replicate (n - i) 0)).set i (.int .i64 v) = intsV (p ++ [v] ++ List.replicate (n - (i + 1)) 0) := by
  obtain ⟨m, hm⟩ : ∃ m, n - i = m + 1 := ⟨n - i - 1, by omega⟩
  rw [hm, show n - (i + 1) = m by omega, List.replicate_succ]
  subst hp
  simp [intsV, List.set_append]

set_option maxHeartbeats 2000000 in
theorem row_c {G : Nat → Prop} {w : World} {v : Value} {l : List Int} (W y : Nat) (d k : Int) (hr : Rd G w v l.length (intsV l)) (hl : l.length ≤ 1000000) (hW : 1 ≤ W ∧ W ≤ 64) (hy : y < 64) (hd : dep d = true) (hy2 : y * W + W ≤ l.length) (hall : l.all (inD d) = true) :
    Calls Try.prog 36 [v, .int .i64 W, .int .i64 y, .int .i64 d, .int .i64 k].toArray w (Ret fun r w' => Hp w w' [.own 3 1 r W (intsV (rowTo l W d k y W))]) := by
  refine F_sound c36 (by simp [fc36]) ?_
  obtain ⟨hS, hL⟩ := hr.sl
  have hp := p2_bd (dep_iff.1 hd).2
  simp [fc36, s36]
  refine mkN_h slTI (kl := .i64) (kc := .i64) (n := W) (xs := intsV (List.replicate W 0)) (Hp.nil w) (by simp) (by simp) (by omega) (by unfold maxLen; omega) (fun z hz => by rw [zero64 hz, intsV_zeros]) ?_
  intro rv w1 H M1
  refine ⟨.inl rfl, ?_⟩
  obtain ⟨rS, rL⟩ := (H.rd 0 rfl).sl
  simp [rS, rL]
  refine for_r W (fun x env' w' => env' 0 = v ∧ env' 1 = .int .i64 W ∧ env' 2 = .int .i64 y ∧ env' 3 = .int .i64 d ∧ env' 4 = .int .i64 k ∧ env' 11 = rv ∧ env' 21 = .int .i64 W ∧ env' 22 = .int .i64 x ∧
    Hp w w' [.own 3 1 rv W (intsV (rowTo l W d k y x ++ List.replicate (W - x) 0))]) ?_ ?_ ?_
  · simp [rL, rowTo]
    exact H
  · rintro x env w' hx ⟨e0, e1, e2, e3, e4, e11, e21, e22, H⟩
    simp [e21, e22]
    refine ite_r (t := true) (by simp; omega) (fun _ => ?_) (fun h => by cases h)
    simp [wp_blk]
    refine callm (near_c W x y (hr.at H.mod)) (by simp (disch := omega) [wI, wU, tmod_nn, tdiv_nn, env0_0, env0_1, env0_2, env0_3, env0_4, env0_5, -env0_apply, e0, e1, e2, e22]) ?_
    intro w' M'
    replace H := H.same M'
    simp [tup4]
    refine callm (one_c' k (nearI l W x y).1 (nearI l W x y).2.1 (nearI l W x y).2.2.1 (nearI l W x y).2.2.2 d) (by simp (disch := omega) [wI, wU, tmod_nn, tdiv_nn, env0_0, env0_1, env0_2, env0_3, env0_4, env0_5, -env0_apply, e3, e4]) ?_
    intro w' M'
    replace H := H.same M'
    have hT : (y : Int) * (W : Int) = ((y * W : Nat) : Int) := by rw [Int.natCast_mul]
    have hyW : y * W ≤ 63 * 64 := Nat.mul_le_mul (by omega) (by omega)
    have w1 : IntKind.i64.wrap ((y * W : Nat) : Int) = ((y * W : Nat) : Int) := wI (by omega) (by omega)
    have w2 : IntKind.i64.wrap (((y * W : Nat) : Int) + (x : Int)) = ((y * W + x : Nat) : Int) := by rw [wI (by omega) (by omega)]; omega
    have hil : y * W + x < l.length := by omega
    have hg := (hr.at H.mod).gi (y * W + x) hil
    have hp1 := hr.some (by omega)
    have hgl := gi_lt hall (y * W + x) hil
    have hob := one_bd k (nearI l W x y).1 (nearI l W x y).2.1 (nearI l W x y).2.2.1 (nearI l W x y).2.2.2 d
    have hfa : foreAt l W d k x y = wrapI (gi l (y * W + x) - oneI k (nearI l W x y).1 (nearI l W x y).2.1 (nearI l W x y).2.2.1 (nearI l W x y).2.2.2 d) d := rfl
    have hrt : rowTo l W d k y (x + 1) = rowTo l W d k y x ++ [foreAt l W d k x y] := rfl
    have hrl := rowTo_len l W d k y x
    rw [hrt, hfa]
    generalize oneI k (nearI l W x y).1 (nearI l W x y).2.1 (nearI l W x y).2.2.1 (nearI l W x y).2.2.2 d = g at *
    generalize rowTo l W d k y x = rt at *
    generalize y * W = M at *
    generalize gi l (M + x) = s at *
    have w3 : IntKind.i64.wrap (s - g) = s - g := wI (by omega) (by omega)
    have hil' : ((M + x : Nat) : Int) < (l.length : Int) := by omega
    have hw1 : IntKind.i64.wrap ((x : Int) + 1) = ((x + 1 : Nat) : Int) := by rw [wI (by omega) (by omega)]; omega
    simp [-Int.natCast_add, e0, e1, e2, e22, hS, hL, hT, w1, w2, hp1, hg, hil', w3]
    refine callp (wrap_c (s - g) d) (by simp [e3, w3]) ?_
    obtain ⟨r2S, r2L⟩ := (H.rd 0 rfl).sl
    have hxr : 0 < W := by omega
    have hpr := (H.rd 0 rfl).ptr (by simp [intsV]; omega)
    simp [e11, e22, rS, rL, hx, hpr.1]
    refine set_h 0 H rfl (i := x) (u := .int .i64 (wrapI (s - g) d)) hx (by simp [e11, e22, rS, rL, hx, hpr.1]) (by simp) (by simp) ?_
    intro w2 H
    refine ⟨.inl rfl, ?_⟩
    simp [-Int.natCast_add, hw1, e0, e1, e2, e3, e4, e11, e21, e22]
    have hsf := set_fill (p := rt) (n := W) (wrapI (s - g) d) hrl hx
    rw [List.append_assoc] at hsf
    simp only [List.set_cons_zero] at H
    rw [hsf] at H
    exact ⟨by omega, H⟩
  · rintro env w' ⟨e0, e1, e2, e3, e4, e11, e21, e22, H⟩
    simp [e21, e22]
    refine ite_r (t := false) (by simp) (fun h => by cases h) (fun _ => ?_)
    simp [e11]
    simpa using H

theorem nn_dims {l : List Int} {w h d : Int} (hp : planeB l w h d = true) : ∃ W H' : Nat, w = W ∧ h = H' ∧ (1 ≤ W ∧ W ≤ 64) ∧ (1 ≤ H' ∧ H' ≤ 64) ∧ dep d = true ∧ l.length = W * H' ∧ l.all (inD d) = true := by
  obtain ⟨h1, h2, h3, h4, h5⟩ := planeB_iff.1 hp
  refine ⟨w.toNat, h.toNat, by omega, by omega, by omega, by omega, h3, ?_, h5⟩
  have e : w * h = ((w.toNat * h.toNat : Nat) : Int) := by rw [Int.natCast_mul]; congr 1 <;> omega
  omega

set_option maxHeartbeats 2000000 in
theorem fore_c {G : Nat → Prop} {w : World} {v kv : Value} {l ks : List Int} (wd h d : Int) (hr : Rd G w v l.length (intsV l)) (hk : Rd G w kv ks.length (intsV ks)) (hl : l.length ≤ 1000000) (hkl : ks.length ≤ 1000000) :
    Calls Try.prog 19 [v, .int .i64 wd, .int .i64 h, .int .i64 d, kv].toArray w (Ret fun r w' => RowErr w w' r (foreS l wd h d ks)) := by
  refine F_sound c19 (by simp [fc19]) ?_
  obtain ⟨hS, hL⟩ := hr.sl
  obtain ⟨kS, kL⟩ := hk.sl
  simp [fc19, s19]
  refine callp (plane_ok wd h d hr hl) (by simp) ?_
  unfold foreS
  cases hp : planeB l wd h d
  · simp
    refine ifg_r (t := true) (by simp) (fun h => by cases h) (fun _ => ?_)
    simp
    refine ite_r (t := true) (by simp) (fun _ => ?_) (fun h => by cases h)
    simp
    exact RowErr.bad (Mod.refl _ _)
  simp
  refine ifg_r (t := false) (by simp) (fun _ => ?_) (fun h => (h rfl).elim)
  refine callp (kinds_ok h hk hkl) (by simp) ?_
  cases hkb : kindsB ks h
  · simp
    refine ite_r (t := true) (by simp) (fun _ => ?_) (fun h => by cases h)
    simp
    exact RowErr.bad (Mod.refl _ _)
  obtain ⟨W, H', rfl, rfl, hW, hH, hd, hln, hall⟩ := nn_dims hp
  have hkn : ks.length = H' := by
    have := hkb
    simp only [kindsB, Bool.and_eq_true, decide_eq_true_eq] at this
    omega
  have hm0 : W * H' ≤ 64 * 64 := Nat.mul_le_mul hW.2 hH.2
  simp [hS, hL]
  refine ite_r (t := false) (by simp) (fun h => by cases h) (fun _ => ?_)
  simp [hS, hL]
  refine mk0_h slTI (kl := .i64) (kc := .i64) (c := l.length) (Hp.nil w) (by simp) (by simp [hS, hL]) (by omega) (by omega) (by omega) (by unfold maxLen; omega) ?_
  intro rv w1 H M1
  refine ⟨.inl rfl, ?_⟩
  simp [kS, kL]
  refine for_r H' (fun y env' w' => env' 0 = v ∧ env' 1 = .int .i64 W ∧ env' 3 = .int .i64 d ∧ env' 30 = kv ∧ env' 31 = .int .i64 H' ∧ env' 32 = .int .i64 y ∧ Hp w w' [.own 3 1 (env' 12) (y * W) (intsV (foreRows l W d ks y))]) ?_ ?_ ?_
  · simp [kL, hkn, foreRows]
    exact H
  · rintro y env w' hy ⟨e0, e1, e3, e30, e31, e32, H⟩
    simp [e31, e32]
    refine ite_r (t := true) (by simp; omega) (fun _ => ?_) (fun h => by cases h)
    simp [wp_blk]
    have hkg := (hk.at H.mod).gi y (by omega)
    have hkp := hk.some (by omega)
    have hyk : y < ks.length := by omega
    have hyW : (y + 1) * W ≤ H' * W := Nat.mul_le_mul_right W (by omega)
    rw [Nat.succ_mul, Nat.mul_comm H' W] at hyW
    simp [e30, e32, kS, kL, hkg, hkp, hyk]
    refine call_h (row_c W y d (gi ks y) (hr.at H.mod) hl hW (by omega) hd (by omega) hall) (by simp [e0, e1, e3]) ?_
    intro u w2 HR
    replace H := H.join HR
    refine app_h slTI 0 H rfl (H.rd 1 rfl) (by simp [intsV, rowTo_len]) (intsV_one _) (by omega) (by unfold maxLen; omega) (by simp) (by simp) ?_
    intro v' w3 H
    refine ⟨.inl rfl, ?_⟩
    replace H := H.drop 1
    have hw1 : IntKind.i64.wrap ((y : Int) + 1) = ((y + 1 : Nat) : Int) := by rw [wI (by omega) (by omega)]; omega
    simp [-Int.natCast_add, hw1, e0, e1, e3, e30, e31, e32]
    rw [intsV_app] at H
    refine ⟨by omega, ?_⟩
    rw [Nat.succ_mul]
    exact H
  · rintro env w' ⟨e0, e1, e3, e30, e31, e32, H⟩
    simp [e31, e32]
    refine ite_r (t := false) (by simp) (fun h => by cases h) (fun _ => ?_)
    simp
    rw [foreRows_is l (by omega) d ks H', Nat.mul_comm] at H
    refine ⟨_, rfl, ?_⟩
    rw [hln]
    simp only [foreTo_len]
    exact H

set_option maxHeartbeats 2000000 in
theorem fore2_c {G : Nat → Prop} {w : World} {v kv : Value} {l ks : List Int} (wd h d : Int) (hr : Rd G w v l.length (intsV l)) (hk : Rd G w kv ks.length (intsV ks)) (hl : l.length ≤ 1000000) (hkl : ks.length ≤ 1000000) :
    Calls Try.prog 40 [v, .int .i64 wd, .int .i64 h, .int .i64 d, kv].toArray w (Ret fun r w' => RowErr w w' r (foreS l wd h d ks)) := by
  refine F_sound c40 (by simp [fc40]) ?_
  obtain ⟨hS, hL⟩ := hr.sl
  obtain ⟨kS, kL⟩ := hk.sl
  simp [fc40, s40]
  refine callp (plane2_ok wd h d hr hl) (by simp) ?_
  unfold foreS
  cases hp : planeB l wd h d
  · simp
    refine ifg_r (t := true) (by simp) (fun h => by cases h) (fun _ => ?_)
    simp
    refine ite_r (t := true) (by simp) (fun _ => ?_) (fun h => by cases h)
    simp
    exact RowErr.bad (Mod.refl _ _)
  simp
  refine ifg_r (t := false) (by simp) (fun _ => ?_) (fun h => (h rfl).elim)
  refine callp (kinds2_ok h hk hkl) (by simp) ?_
  cases hkb : kindsB ks h
  · simp
    refine ite_r (t := true) (by simp) (fun _ => ?_) (fun h => by cases h)
    simp
    exact RowErr.bad (Mod.refl _ _)
  obtain ⟨W, H', rfl, rfl, hW, hH, hd, hln, hall⟩ := nn_dims hp
  have hkn : ks.length = H' := by
    have := hkb
    simp only [kindsB, Bool.and_eq_true, decide_eq_true_eq] at this
    omega
  have hm0 : W * H' ≤ 64 * 64 := Nat.mul_le_mul hW.2 hH.2
  have hpd := p2_bd (dep_iff.1 hd).2
  simp
  refine ite_r (t := false) (by simp) (fun h => by cases h) (fun _ => ?_)
  simp
  refine for_r l.length (fun i env' w' => env' 0 = v ∧ env' 1 = .int .i64 W ∧ env' 3 = .int .i64 d ∧ env' 4 = kv ∧ env' 13 = .int .i64 i ∧ Hp w w' [.own 3 1 (env' 12) i (intsV (foreTo l W d ks i))]) ?_ ?_ ?_
  · simp [foreTo]
    exact (Hp.nil w).nilS
  · rintro i env w' hi ⟨e0, e1, e3, e4, e13, H⟩
    simp [e0, e13, hS, hL]
    refine ite_r (t := true) (by simp; omega) (fun _ => ?_) (fun h => by cases h)
    simp [wp_blk]
    have hx0 : (i : Int).tmod (W : Int) = ((i % W : Nat) : Int) := by rw [Int.tmod_eq_emod_of_nonneg (by omega)]; rfl
    have hy0 : (i : Int).tdiv (W : Int) = ((i / W : Nat) : Int) := by rw [Int.tdiv_eq_ediv_of_nonneg (by omega)]; rfl
    have hwn : W ≠ 0 := by omega
    have hxb : i % W < W := Nat.mod_lt i (by omega)
    have hyb : i / W < H' := Nat.div_lt_of_lt_mul (by omega)
    have hwy0 : ∀ y : Nat, y < 65 → IntKind.i64.wrap (y : Int) = (y : Int) := fun y _ => wI (by omega) (by omega)
    have hwy := hwy0 (i / W) (by omega)
    have hyk : i / W < ks.length := by omega
    have hx1 : (i : Int) % (W : Int) = ((i % W : Nat) : Int) := rfl
    have hy1 : (i : Int) / (W : Int) = ((i / W : Nat) : Int) := rfl
    have hft : foreTo l W d ks (i + 1) = foreTo l W d ks i ++ [foreAt l W d (gi ks (i / W)) (i % W) (i / W)] := rfl
    have hiW : i / W * W + i % W = i := by rw [Nat.mul_comm]; exact Nat.div_add_mod i W
    rw [hft]
    generalize i % W = X at *
    generalize i / W = Y at *
    replace H := H.drew
    simp [e0, e1, e13, hx0, hy0, hwn, hwy]
    refine callm (near2_c W X Y (hr.at H.mod)) (by simp (disch := omega) [wI, wU, tmod_nn, tdiv_nn, env0_0, env0_1, env0_2, env0_3, env0_4, env0_5, -env0_apply, e0, e1, e13, hx0, hy0, hx1, hy1, hwy]) ?_
    intro w' M'
    replace H := H.same M'
    replace H := H.drew
    have hg := (hr.at H.mod).gi i hi
    have hp1 := hr.some (by omega)
    have hkg := (hk.at H.mod).gi Y hyk
    have hkp := hk.some (by omega)
    have hg0 := hg
    simp only [cell_drew] at hg hkg
    simp [tup4, e0, e1, e4, e13, hS, hL, hi, hg, hp1, hwn, hy0, hwy, kS, kL, hkg, hkp, hyk]
    refine call_r _ (one2_c (gi ks Y) (nearI l W X Y).1 (nearI l W X Y).2.1 (nearI l W X Y).2.2.1 (nearI l W X Y).2.2.2 d) (by simp [e3]) ?_
    rintro r w4 ⟨rfl, M4⟩
    have hg4 := M4.cell hg0 (fun h => h)
    replace H := H.same M4
    refine ⟨by simp [promOk, e0, e13]; exact same_one hg0 hg4, ?_⟩
    have hgl := gi_lt hall i hi
    have hob := one_bd (gi ks Y) (nearI l W X Y).1 (nearI l W X Y).2.1 (nearI l W X Y).2.2.1 (nearI l W X Y).2.2.2 d
    have hfa : foreAt l W d (gi ks Y) X Y = wrapI (gi l i - oneI (gi ks Y) (nearI l W X Y).1 (nearI l W X Y).2.1 (nearI l W X Y).2.2.1 (nearI l W X Y).2.2.2 d) d := by rw [foreAt, hiW]; rfl
    rw [hfa]
    generalize oneI (gi ks Y) (nearI l W X Y).1 (nearI l W X Y).2.1 (nearI l W X Y).2.2.1 (nearI l W X Y).2.2.2 d = g at *
    generalize gi l i = s at *
    have w3 : IntKind.i64.wrap (s - g) = s - g := wI (by omega) (by omega)
    simp [w3]
    refine callp (wrap2_c (s - g) d) (by simp [e3, w3]) ?_
    simp
    refine app1_h slTI 0 H rfl (u := .int .i64 (wrapI (s - g) d)) (by simp) (by omega) (by unfold maxLen; omega) (by simp) (by simp) (by simp) (by simp) ?_
    intro vb v' w5 w6 H
    refine ⟨.inl rfl, ?_⟩
    have hw1 : IntKind.i64.wrap ((i : Int) + 1) = ((i + 1 : Nat) : Int) := by rw [wI (by omega) (by omega)]; omega
    simp [-Int.natCast_add, hw1, e0, e1, e3, e4, e13]
    rw [intsV_snoc] at H
    exact ⟨by omega, H⟩
  · rintro env w' ⟨e0, e1, e3, e4, e13, H⟩
    simp [e0, e13, hS, hL]
    refine ite_r (t := false) (by simp) (fun h => by cases h) (fun _ => ?_)
    simp
    refine ⟨_, rfl, ?_⟩
    simp only [foreTo_len]
    exact H

end Go.Proofs.Ytifdamadeleigaa.VG
