/-
  Tick: the least common time.
-/
import Derived.Test.YtflglnigcidmaaaTb
import Derived.Test.YtflglnigcidmaaaBw
namespace Go.Proofs.Ytflglnigcidmaaa.VG
open Go
set_option linter.unusedSimpArgs false
set_option linter.unusedVariables false

theorem gcd_step (a b : Nat) : Nat.gcd a b = Nat.gcd b (a % b) := by
  rw [Nat.gcd_comm a b, Nat.gcd_rec b a, Nat.gcd_comm]

theorem common_c {w : World} (a b : Nat) (ha : a < 9223372036854775808) (hb : b < 9223372036854775808) : Calls Try.prog 17 [.int .i64 a, .int .i64 b].toArray w (Ret fun r w' => r = .int .i64 (Nat.gcd a b : Nat) ∧ Mod none' w w') := by
  refine F_sound c17 (by simp [fc17]) ?_
  simp [fc17, s17]
  refine loop_r (fun m env' w' => ∃ a' : Nat, env' 0 = .int .i64 a' ∧ env' 1 = .int .i64 (m : Nat) ∧ Nat.gcd a b = Nat.gcd a' m ∧ Mod none' w w') b ⟨a, by simp [Mod.refl]⟩ ?_
  rintro m env w' ⟨a', e0, e1, hg, M⟩
  have hm : (a' : Int).tmod m = ((a' % m : Nat) : Int) := by rw [tmod_nn (by omega)]; omega
  by_cases h0 : m = 0
  · subst h0
    simp [e1]
    refine ite_r (t := false) (by simp) (fun h => by cases h) (fun _ => ?_)
    simp [e0, hg, M]
  · simp [e1]
    refine ite_r (t := true) (by simp [h0]) (fun _ => ?_) (fun h => by cases h)
    simp [wp_blk, e0, e1, h0, hm]
    exact ⟨a' % m, Nat.mod_lt _ (by omega), m, rfl, (Int.natCast_emod a' m).symm, by rw [hg, gcd_step], M.drew⟩
theorem shared_c {w : World} (a b : Nat) (ha : a < 9223372036854775808) (hb : b < 9223372036854775808) : Calls Try.prog 19 [.int .i64 a, .int .i64 b].toArray w (Ret fun r w' => r = .int .i64 (Nat.gcd a b : Nat) ∧ Mod none' w w') := by
  refine F_sound c19 (by simp [fc19]) ?_
  simp [fc19, s19]
  refine loop_r (fun m env' w' => ∃ a' : Nat, env' 0 = .int .i64 a' ∧ env' 1 = .int .i64 (m : Nat) ∧ Nat.gcd a b = Nat.gcd a' m ∧ Mod none' w w') b ⟨a, by simp [Mod.refl]⟩ ?_
  rintro m env w' ⟨a', e0, e1, hg, M⟩
  have hm : (a' : Int).tmod m = ((a' % m : Nat) : Int) := by rw [tmod_nn (by omega)]; omega
  by_cases h0 : m = 0
  · subst h0
    simp [e1]
    refine ite_r (t := false) (by simp) (fun h => by cases h) (fun _ => ?_)
    simp [e0, hg, M]
  · simp [e1]
    refine ite_r (t := true) (by simp; omega) (fun _ => ?_) (fun h => by cases h)
    simp [wp_blk, e0, e1, h0, hm]
    exact ⟨a' % m, Nat.mod_lt _ (by omega), m, rfl, (Int.natCast_emod a' m).symm, by rw [hg, gcd_step], M.drew⟩

def dOf (p : Int × Int) : Nat := p.2.toNat / Nat.gcd p.1.toNat p.2.toNat
def leastF : List (Int × Int) → Nat → Option Nat
  | [], t => some t
  | p :: r, t => if mayR p.1 p.2 = false then none else if 1125899906842624 / (dOf p / Nat.gcd t (dOf p)) < t then none else leastF r (t * (dOf p / Nat.gcd t (dOf p)))
def leastS (l : List (Int × Int)) : Int × Bool := if l = [] then (0, false) else match leastF l 1 with
  | none => (0, false)
  | some t => (t, true)

def ratesV (l : List (Int × Int)) : List Value := l.flatMap fun p => [.int .i64 p.1, .int .i64 p.2]
def gp (l : List (Int × Int)) (i : Nat) : Int × Int := l.getD i (0, 0)
theorem ratesV_len (l : List (Int × Int)) : (ratesV l).length = l.length * 2 := by
  induction l with
  | nil => rfl
  | cons p r ih => simp only [ratesV, List.flatMap_cons, List.length_append] at ih ⊢; rw [ih]; simp; omega
theorem ratesV_get : ∀ (l : List (Int × Int)) (i : Nat), i < l.length → (ratesV l)[i * 2]? = some (.int .i64 (gp l i).1) ∧ (ratesV l)[i * 2 + 1]? = some (.int .i64 (gp l i).2)
  | p :: r, 0, _ => ⟨rfl, rfl⟩
  | p :: r, i + 1, h => by
    have := ratesV_get r i (by simpa using h)
    simp only [ratesV, List.flatMap_cons] at this ⊢
    rw [List.getElem?_append_right (by simp; omega), List.getElem?_append_right (by simp; omega)]
    simp only [List.length_cons, List.length_nil]
    rw [show (i + 1) * 2 - (0 + 1 + 1) = i * 2 by omega, show (i + 1) * 2 + 1 - (0 + 1 + 1) = i * 2 + 1 by omega]
    exact this
theorem gp_drop (l : List (Int × Int)) (i : Nat) (h : i < l.length) : l.drop i = gp l i :: l.drop (i + 1) := by
  rw [List.drop_eq_getElem_cons h]; simp [gp, h]
theorem rate_cells {G : Nat → Prop} {w : World} {v : Value} {l : List (Int × Int)} (h : Rd G w v l.length (ratesV l)) (i : Nat) (hi : i < l.length) :
    (slA v).isSome = true ∧ w.cell? ((slB v).add (i * 2)) = some (.int .i64 (gp l i).1) ∧ w.cell? ((slB v).add (i * 2 + 1)) = some (.int .i64 (gp l i).2) ∧
    (∀ j, j < 2 → (w.cell? ((slB v).add (i * 2 + j))).isSome = true) ∧ Value.agg (cellsFrom w ((slB v).add (i * 2)) 0 2).toArray = rV (gp l i).1 (gp l i).2 := by
  obtain ⟨h1, h2⟩ := ratesV_get l i hi
  have c1 := h.cell _ _ h1
  have c2 := h.cell _ _ h2
  refine ⟨(h.ptr (by rw [ratesV_len]; omega)).1, c1, c2, fun j hj => ?_, ?_⟩
  · obtain rfl | rfl : j = 0 ∨ j = 1 := by omega
    · rw [Nat.add_zero, c1]; rfl
    · rw [c2]; rfl
  · simp only [cellsFrom, add_add, Nat.add_zero, c1, c2, Option.getD_some, Nat.zero_add]; rfl

theorem dOf_bd {p : Int × Int} (h : mayR p.1 p.2 = true) : 1 ≤ dOf p ∧ dOf p ≤ 1048576 ∧ Nat.gcd p.1.toNat p.2.toNat ≠ 0 := by
  rw [mayR_iff] at h
  have h0 : 0 < p.2.toNat := by omega
  have h1 := Nat.gcd_le_right p.1.toNat h0
  have h2 := Nat.gcd_pos_of_pos_right p.1.toNat h0
  have h3 := Nat.div_le_self p.2.toNat (Nat.gcd p.1.toNat p.2.toNat)
  have h4 := Nat.div_pos h1 h2
  unfold dOf
  omega
theorem step_bd {t d : Nat} (hd : 1 ≤ d) : 1 ≤ d / Nat.gcd t d ∧ d / Nat.gcd t d ≤ d ∧ Nat.gcd t d ≠ 0 := by
  have h2 := Nat.gcd_pos_of_pos_right t (show 0 < d by omega)
  have h1 := Nat.gcd_le_right t (show 0 < d by omega)
  have h4 := Nat.div_pos h1 h2
  exact ⟨h4, Nat.div_le_self _ _, by omega⟩
theorem next_bd {t s : Nat} (ht : 1 ≤ t) (hs : 1 ≤ s) (h : ¬ 1125899906842624 / s < t) : 1 ≤ t * s ∧ t * s ≤ 1125899906842624 := by
  refine ⟨Nat.mul_pos ht hs, ?_⟩
  have := (Nat.le_div_iff_mul_le (show 0 < s by omega)).1 (Nat.le_of_not_lt h)
  exact this

set_option maxHeartbeats 1000000 in
theorem least_c {G : Nat → Prop} {w : World} {v : Value} {l : List (Int × Int)} (h : Rd G w v l.length (ratesV l)) (hl : l.length ≤ maxLen) :
    Calls Try.prog 8 [v].toArray w (Ret fun r w' => r = .tuple #[.int .i64 (leastS l).1, .bool (leastS l).2] ∧ Mod none' w w') := by
  refine F_sound c8 (by simp [fc8]) ?_
  obtain ⟨hS, hL⟩ := h.sl
  unfold maxLen at hl
  simp [fc8, s8, hS, hL]
  by_cases hz : l = []
  · subst hz
    refine ite_r (t := true) (by simp) (fun _ => ?_) (fun h => by cases h)
    simp [leastS, Mod.refl]
  have hz' : ¬ l.length = 0 := by simpa using hz
  have hLS : leastS l = match leastF l 1 with | none => (0, false) | some t => ((t : Int), true) := by rw [leastS, if_neg hz]
  obtain ⟨i2, hi2, hz2⟩ : ∃ i, Try.prog.info? 23 = some i ∧ i.zero = some (rV 0 0) := ⟨_, rfl, rfl⟩
  refine ite_r (t := false) (by simp [hz]) (fun h => by cases h) (fun _ => ?_)
  simp [hS, hL]
  refine for_r l.length (fun i env' w' => env' 12 = v ∧ env' 13 = .int .i64 l.length ∧ env' 14 = .int .i64 i ∧ ∃ t : Nat, env' 4 = .int .i64 t ∧ 1 ≤ t ∧ t ≤ 1125899906842624 ∧ leastF l 1 = leastF (l.drop i) t ∧ Mod none' w w') ?_ ?_ ?_
  · simp
    exact ⟨1, by simp [Mod.refl]⟩
  · rintro i env w' hi ⟨e12, e13, e14, t, e4, t1, t2, hF, M⟩
    obtain ⟨q1, q2, q3, q4, q5⟩ := rate_cells (h.at M) i hi
    rw [gp_drop l i hi] at hF
    simp [e13, e14]
    refine ite_r (t := true) (by simp [hi]) (fun _ => ?_) (fun h => by cases h)
    simp [wp_blk, e12, e14, hS, hL, q1, q5, hi]
    refine ⟨fun j hj => by rw [add_add]; exact q4 j hj, ?_⟩
    refine alloc_h (Hp.ofMod M) hi2 hz2 ?_
    intro b w2 H M2
    refine ⟨.inl rfl, ?_⟩
    refine stAll_h 0 H rfl (v := rV (gp l i).1 (gp l i).2) (by simp) (by simp) rfl rfl (by simp [rV, Value.cells]) ?_
    intro w3 H
    refine ⟨.inl rfl, ?_⟩
    have hok := two_ok (H.blk 0 rfl)
    obtain ⟨h0, h1, h2⟩ := r_box (H.blk 0 rfl)
    simp [h2]
    refine ⟨hok, ?_⟩
    generalize gp l i = p at *
    refine callm (tmay_c p.1 p.2) (by simp) ?_
    intro w4 M4
    replace H := H.same M4
    cases hm : mayR p.1 p.2
    · simp
      refine ite_r (t := true) (by simp) (fun _ => ?_) (fun h => by cases h)
      simp [hLS, hF, leastF, hm, H.mod]
    have hm' := mayR_iff.1 hm
    have hdb := dOf_bd hm
    rw [leastF, if_neg (by simp [hm])] at hF
    have hsb := step_bd (t := t) hdb.1
    simp
    refine ite_r (t := false) (by simp) (fun h => by cases h) (fun _ => ?_)
    obtain ⟨h0, h1, h2⟩ := r_box (H.blk 0 rfl)
    simp [h0, h1]
    replace H := H.drew
    have hd0 : dOf p = p.2.toNat / Nat.gcd p.1.toNat p.2.toNat := rfl
    obtain ⟨x, y⟩ := p
    simp only at *
    obtain ⟨X, rfl⟩ : ∃ X : Nat, x = X := ⟨x.toNat, by omega⟩
    obtain ⟨Y, rfl⟩ : ∃ Y : Nat, y = Y := ⟨y.toNat, by omega⟩
    simp only [Int.toNat_natCast] at *
    refine call_r _ (common_c X Y (by omega) (by omega)) (by simp) ?_
    rintro r w5 ⟨rfl, M5⟩
    have H0 := H
    replace H := H.same M5
    refine ⟨by simp [promOk]; exact same_blk (H0.blk 0 rfl) (H.blk 0 rfl), ?_⟩
    have n1 := hdb.2.2
    have dv1 : (Y : Int).tdiv (Nat.gcd X Y : Nat) = (dOf (X, Y) : Nat) := by rw [tdiv_nn (by omega), hd0]; omega
    generalize dOf ((X : Int), (Y : Int)) = d at *
    have wd : IntKind.i64.wrap (d : Int) = d := wI (by omega) (by omega)
    simp [n1, dv1, wd]
    refine callm (common_c t d (by omega) (by omega)) (by simp [e4]) ?_
    intro w6 M6
    replace H := H.same M6
    have n2 := hsb.2.2
    have dv2 : (d : Int).tdiv (Nat.gcd t d : Nat) = (d / Nat.gcd t d : Nat) := by rw [tdiv_nn (by omega)]; omega
    generalize Nat.gcd t d = g at *
    generalize hs : d / g = s at *
    have ws : IntKind.i64.wrap (s : Int) = s := wI (by omega) (by omega)
    have ns : ¬ s = 0 := by omega
    have dv3 : (1125899906842624 : Int).tdiv (s : Int) = (1125899906842624 / s : Nat) := by rw [tdiv_nn (by omega)]; exact (Int.natCast_ediv 1125899906842624 s).symm
    have dq : 1125899906842624 / s ≤ 1125899906842624 := Nat.div_le_self _ _
    generalize hqq : 1125899906842624 / s = q at *
    have wq : IntKind.i64.wrap (q : Int) = q := wI (by omega) (by omega)
    simp [n1, n2, dv1, dv2, wd, ws, ns, dv3, wq, e4]
    by_cases hbig : q < t
    · refine ite_r (t := true) (by simp [hbig]) (fun _ => ?_) (fun h => by cases h)
      simp [hLS, hF, hbig, H.mod]
    · obtain ⟨b1, b2⟩ := next_bd t1 hsb.1 (by rw [hqq]; exact hbig)
      have wts : IntKind.i64.wrap ((t : Int) * s) = ((t * s : Nat) : Int) := by rw [← Int.natCast_mul]; exact wI (by omega) (by omega)
      refine ite_r (t := false) (by simp; omega) (fun h => by cases h) (fun _ => ?_)
      simp (disch := omega) [wI, wU, tmod_nn, tdiv_nn, env0_0, env0_1, env0_2, env0_3, env0_4, env0_5, -env0_apply, e4, e12, e13, e14, wts]
      refine ⟨t * s, by simp, b1, b2, ?_, H.mod⟩
      rw [hF, if_neg hbig]
  · rintro env w' ⟨e12, e13, e14, t, e4, t1, t2, hF, M⟩
    rw [List.drop_length, leastF] at hF
    simp [e13, e14]
    refine ite_r (t := false) (by simp) (fun h => by cases h) (fun _ => ?_)
    simp [e4, hLS, hF, M]

set_option maxHeartbeats 1000000 in
theorem least2_c {G : Nat → Prop} {w : World} {v : Value} {l : List (Int × Int)} (h : Rd G w v l.length (ratesV l)) (hl : l.length ≤ maxLen) :
    Calls Try.prog 9 [v].toArray w (Ret fun r w' => r = .tuple #[.int .i64 (leastS l).1, .bool (leastS l).2] ∧ Mod none' w w') := by
  refine F_sound c9 (by simp [fc9]) ?_
  obtain ⟨hS, hL⟩ := h.sl
  unfold maxLen at hl
  simp [fc9, s9]
  have hLS : leastS l = if l = [] then (0, false) else match leastF l 1 with | none => (0, false) | some t => ((t : Int), true) := rfl
  refine for_r l.length (fun i env' w' => env' 0 = v ∧ env' 5 = .int .i64 i ∧ ∃ t : Nat, env' 4 = .int .i64 t ∧ 1 ≤ t ∧ t ≤ 1125899906842624 ∧ leastF l 1 = leastF (l.drop i) t ∧ Mod none' w w') ?_ ?_ ?_
  · simp
    exact ⟨1, by simp [Mod.refl]⟩
  · rintro i env w' hi ⟨e0, e5, t, e4, t1, t2, hF, M⟩
    have hne : l ≠ [] := by rintro rfl; simp at hi
    rw [if_neg hne] at hLS
    obtain ⟨q1, q2, q3, q4, q5⟩ := rate_cells (h.at M) i hi
    rw [gp_drop l i hi] at hF
    simp [e0, e5, hS, hL]
    refine ite_r (t := true) (by simp [hi]) (fun _ => ?_) (fun h => by cases h)
    simp [wp_blk, e0, e5, hS, hL, q1, q5, hi]
    refine ⟨fun j hj => by rw [add_add]; exact q4 j hj, ?_⟩
    have hrc := fun w' (hM : Mod none' w w') => rate_cells (h.at hM) i hi
    generalize gp l i = p at *
    refine callm (tmay2_c p.1 p.2) (by simp) ?_
    intro w4 M4
    replace M := M.tr M4
    cases hm : mayR p.1 p.2
    · simp
      refine ite_r (t := true) (by simp) (fun _ => ?_) (fun h => by cases h)
      simp [hLS, hF, leastF, hm, M]
    have hm' := mayR_iff.1 hm
    have hdb := dOf_bd hm
    rw [leastF, if_neg (by simp [hm])] at hF
    have hsb := step_bd (t := t) hdb.1
    simp
    refine ite_r (t := false) (by simp) (fun h => by cases h) (fun _ => ?_)
    obtain ⟨q1, q2, q3, q4, q5⟩ := hrc _ M
    simp [e0, e5, hS, hL, q1, q2, q3, hi, add_add]
    replace M := M.drew
    have hd0 : dOf p = p.2.toNat / Nat.gcd p.1.toNat p.2.toNat := rfl
    obtain ⟨x, y⟩ := p
    simp only at *
    obtain ⟨X, rfl⟩ : ∃ X : Nat, x = X := ⟨x.toNat, by omega⟩
    obtain ⟨Y, rfl⟩ : ∃ Y : Nat, y = Y := ⟨y.toNat, by omega⟩
    simp only [Int.toNat_natCast] at *
    refine call_r _ (shared_c X Y (by omega) (by omega)) (by simp) ?_
    rintro r w5 ⟨rfl, M5⟩
    replace M := M.tr M5
    obtain ⟨_, _, q3', _, _⟩ := hrc _ M
    refine ⟨by simp [promOk, e0, e5, hS, hL, add_add]; exact same_one (by simpa using q3) q3', ?_⟩
    have n1 := hdb.2.2
    have dv1 : (Y : Int).tdiv (Nat.gcd X Y : Nat) = (dOf (X, Y) : Nat) := by rw [tdiv_nn (by omega), hd0]; omega
    generalize dOf ((X : Int), (Y : Int)) = d at *
    have wd : IntKind.i64.wrap (d : Int) = d := wI (by omega) (by omega)
    simp [n1, dv1, wd]
    refine callm (shared_c t d (by omega) (by omega)) (by simp [e4]) ?_
    intro w6 M6
    replace M := M.tr M6
    have n2 := hsb.2.2
    have dv2 : (d : Int).tdiv (Nat.gcd t d : Nat) = (d / Nat.gcd t d : Nat) := by rw [tdiv_nn (by omega)]; omega
    generalize Nat.gcd t d = g at *
    generalize hs : d / g = s at *
    have ws : IntKind.i64.wrap (s : Int) = s := wI (by omega) (by omega)
    have ns : ¬ s = 0 := by omega
    have dv3 : (1125899906842624 : Int).tdiv (s : Int) = (1125899906842624 / s : Nat) := by rw [tdiv_nn (by omega)]; exact (Int.natCast_ediv 1125899906842624 s).symm
    have dq : 1125899906842624 / s ≤ 1125899906842624 := Nat.div_le_self _ _
    generalize hqq : 1125899906842624 / s = q at *
    have wq : IntKind.i64.wrap (q : Int) = q := wI (by omega) (by omega)
    simp [n1, n2, dv1, dv2, wd, ws, ns, dv3, wq, e4]
    by_cases hbig : q < t
    · refine ite_r (t := true) (by simp [hbig]) (fun _ => ?_) (fun h => by cases h)
      simp [hLS, hF, hbig, M]
    · obtain ⟨b1, b2⟩ := next_bd t1 hsb.1 (by rw [hqq]; exact hbig)
      have wts : IntKind.i64.wrap ((t : Int) * s) = ((t * s : Nat) : Int) := by rw [← Int.natCast_mul]; exact wI (by omega) (by omega)
      refine ite_r (t := false) (by simp; omega) (fun h => by cases h) (fun _ => ?_)
      simp (disch := omega) [wI, wU, tmod_nn, tdiv_nn, env0_0, env0_1, env0_2, env0_3, env0_4, env0_5, -env0_apply, e4, e0, e5, wts]
      refine ⟨t * s, by simp, b1, b2, ?_, M⟩
      rw [hF, if_neg hbig]
  · rintro env w' ⟨e0, e5, t, e4, t1, t2, hF, M⟩
    rw [List.drop_length, leastF] at hF
    simp [e0, e5, hS, hL]
    refine ite_r (t := false) (by simp) (fun h => by cases h) (fun _ => ?_)
    by_cases hz : l = []
    · subst hz
      simp [hS, hL, e0]
      refine ite_r (t := true) (by simp) (fun _ => ?_) (fun h => by cases h)
      simp [hLS, M]
    · have hz' : ¬ l.length = 0 := by simpa using hz
      simp [hS, hL, e0]
      refine ite_r (t := false) (by simp [hz]) (fun h => by cases h) (fun _ => ?_)
      simp [e4, hLS, hF, M, hz]

end Go.Proofs.Ytflglnigcidmaaa.VG
