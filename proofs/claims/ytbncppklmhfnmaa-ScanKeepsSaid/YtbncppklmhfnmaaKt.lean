/-
  A tape of numbers; planes made of it.
-/
import Derived.Test.YtbncppklmhfnmaaKe
namespace Go.Proofs.Ytbncppklmhfnmaa.VG
open Go
set_option linter.unusedSimpArgs false
set_option linter.unusedVariables false
set_option maxRecDepth 20000

/-- A tape over n numbers, read up to some place. -/
def It.tp (t : Nat) (v : Value) (n : Nat) : It where
  P w F := (∃ (a : Nat) (el : TypeId), a ≤ n ∧ w.heap[t]? = some (.cells #[v, .int .i64 a] el (0, 0))) ∧ F = fun k => k = t
  st := fun ⟨⟨a, el, ha, h⟩, hF⟩ m d => ⟨⟨a, el, ha, m.heap h (d t (by rw [hF]))⟩, hF⟩
  lt := fun ⟨⟨a, el, ha, h⟩, hF⟩ k hk => by rw [hF] at hk; rw [hk]; exact heap_lt h
def Tp (w : World) (t : Nat) (v : Value) (n : Nat) : Prop := (It.tp t v n).P w (fun k => k = t)
theorem tp_only {t n : Nat} {v : Value} {w : World} (F' : Nat → Prop) (h : (It.tp t v n).P w F') : F' = fun k => k = t := h.2
/-- A tape goes on. -/
def TpA (w : World) (t : Nat) (v : Value) (n : Nat) (w' : World) : Prop := Tp w' t v n ∧ Mod (fun k => k = t) w w'
theorem Hp.tp {W w : World} {l : List It} (h : Hp W w l) (j : Nat) {t n : Nat} {v : Value} (hj : l[j]? = some (.tp t v n)) :
    Tp w t v n ∧ W.heap.size ≤ t ∧ (∀ w' R, TpA w t v n w' → (∃ Gs, Sep w.heap.size w' R Gs) → Hp W w' (l.set j (.tp t v n) ++ R)) ∧ ∀ w', TpA w t v n w' → Hp W w' (l.set j (.tp t v n)) := by
  obtain ⟨F, ⟨h1, rfl⟩, h2, h4⟩ := h.upR j hj
  refine ⟨⟨h1, rfl⟩, h2 t rfl, fun w' R ⟨q1, q2⟩ hR => h4 _ w' _ R q2 q1 (fun k hk => hk) hR, fun w' ⟨q1, q2⟩ => ?_⟩
  have := h4 _ w' _ [] q2 q1 (fun k hk => hk) ⟨[], trivial⟩
  rwa [List.append_nil] at this

theorem next_c {G : Nat → Prop} {w : World} {t : Nat} {v : Value} {l : List Int} (h : Tp w t v l.length) (hr : Rd G w v l.length (intsV l)) (hg : ¬ G t) (hl : l.length ≤ maxLen) (n : Int) (hn : n ≤ 9223372036854775807) :
    Calls Try.prog 17 [.pointer (some ⟨t, 0, none⟩), .int .i64 n].toArray w (Ret fun r w' => ∃ k : Int, r = .int .i64 k ∧ 0 ≤ k ∧ (1 ≤ n → k < n) ∧ TpA w t v l.length w') := by
  refine F_sound c17 (by simp [fc17]) ?_
  obtain ⟨⟨a, el, ha, hb⟩, _⟩ := id h
  obtain ⟨hS, hL⟩ := hr.sl
  have c0 := cell_blk hb 0
  have c1 := cell_blk hb 1
  simp at c0 c1
  have ha1 : (l.length : Int) ≤ 9223372036854775807 := by unfold maxLen at hl; omega
  simp [fc17, s17, c0, c1, hS, hL]
  by_cases hend : l.length ≤ a ∨ n < 1
  · refine ite_r (t := true) (by simp; omega) (fun _ => ?_) (fun h => by cases h)
    simp
    exact ⟨by omega, ⟨⟨a, el, ha, hb⟩, rfl⟩, (Mod.refl _ _).drew⟩
  refine ite_r (t := false) (by simp; omega) (fun h => by cases h) (fun _ => ?_)
  have hw1 : IntKind.i64.wrap ((a : Int) + 1) = (a : Int) + 1 := wI (by omega) (by omega)
  simp [c0, c1]
  refine st_r (o := 1) (v := .int .i64 ((a : Int) + 1)) (by simp) (by simp [hw1]) hb (by simp) (by simp) ?_
  intro w1 h2 hm0 _
  have hm : Mod (fun k => k = t) w w1 := ((Mod.refl _ w).drew).tr hm0
  refine ⟨by trivial, ?_⟩
  have d0 := cell_blk h2 0
  have d1 := cell_blk h2 1
  simp at d0 d1
  have hr1 := hr.mod hm (fun k hk hk' => hg (hk' ▸ hk))
  have hg1 := hr1.gi a (by omega)
  have hp1 := hr1.some (by omega)
  have hw2 : IntKind.i64.wrap (a : Int) = (a : Int) := wI (by omega) (by omega)
  have hal : a < l.length := by omega
  simp [d0, d1, hS, hL, hw2, hg1, hp1, hal]
  refine callp (within_c (gi l a) 0 1073741824 (by omega) (by omega) (by omega)) (by simp) ?_
  have hwb := with_bd (n := gi l a) (lo := 0) (hi := 1073741824) (by omega)
  have ht : (withI (gi l a) 0 1073741824).tmod n = withI (gi l a) 0 1073741824 % n := Int.tmod_eq_emod_of_nonneg hwb.1
  have hm1 := Int.emod_nonneg (withI (gi l a) 0 1073741824) (show n ≠ 0 by omega)
  have hm2 := Int.emod_lt_of_pos (withI (gi l a) 0 1073741824) (show 0 < n by omega)
  simp [ht]
  exact ⟨by omega, hm1, by omega, ⟨⟨a + 1, el, by omega, by simpa using h2⟩, rfl⟩, hm.drew⟩

theorem tnew_c {w : World} {v : Value} (n : Nat) (h1c : v.cells = #[v]) : Calls Try.prog 16 [v].toArray w (Ret fun r w' => ∃ t, r = .pointer (some ⟨t, 0, none⟩) ∧ Hp w w' [.tp t v n]) := by
  refine F_sound c16 (by simp [fc16]) ?_
  simp [fc16, s16, h1c]
  refine box_r (.agg #[v, .int .i64 0]) (by simp [putAt, h1c]) ?_
  intro t w' ht hh hm _
  refine ⟨by trivial, ?_⟩
  simp
  have hc : (Value.agg #[v, .int .i64 0]).cells = #[v, .int .i64 0] := by simp [Value.cells, h1c]
  rw [hc] at hh
  exact (Hp.nil w).add (i := .tp t v n) (F := fun k => k = t) hm ⟨⟨0, _, Nat.zero_le _, hh⟩, rfl⟩ (fun k hk => by omega)
theorem rnext_c {W w : World} {l : List It} {b : Nat} {s : Int} (j : Nat) (H : Hp W w l) (hj : l[j]? = some (.blk b #[.int .i64 s])) (n : Int) (hn : 1 ≤ n) :
    Calls Try.prog 34 [.pointer (some ⟨b, 0, none⟩), .int .i64 n].toArray w (Ret fun r w' => ∃ k s' : Int, r = .int .i64 k ∧ 0 ≤ k ∧ k < n ∧ Hp W w' (l.set j (.blk b #[.int .i64 s']))) := by
  refine F_sound c34 (by simp [fc34]) ?_
  have hc := H.blk j hj 0
  simp at hc
  simp [fc34, s34, hc]
  have hb : ∀ y : Int, bitw .and .i64 y 2147483647 = y % 2147483648 := fun y => and_m y 31 (by omega)
  obtain ⟨x, hx⟩ : ∃ x, x = IntKind.i64.wrap (IntKind.i64.wrap (s * 1103515245) + 12345) % 2147483648 := ⟨_, rfl⟩
  have hx0 : 0 ≤ x ∧ x < 2147483648 := by omega
  refine st_h j H hj (o := 0) (v := .int .i64 x) (by simp) (by simp [hc, hb, hx]) (by simp) (by simp) ?_
  intro w1 H1
  refine ⟨.inl rfl, ?_⟩
  have hjl := (List.getElem?_eq_some_iff.1 hj).1
  have hc1 := H1.blk j (by rw [List.getElem?_set_self hjl]) 0
  simp at hc1
  have hs8 : shr .i64 x 8 = x / 256 := shr_int .i64 x 8 (by decide)
  have ht : (x / 256).tmod n = x / 256 % n := Int.tmod_eq_emod_of_nonneg (by omega)
  have hm1 := Int.emod_nonneg (x / 256) (show n ≠ 0 by omega)
  have hm2 := Int.emod_lt_of_pos (x / 256) (show 0 < n by omega)
  simp [hc1, hs8, ht]
  simp at H1
  exact ⟨by omega, hm1, hm2, x, H1⟩

/-- A plane that is made of a tape: so many samples of so many bits. -/
def IsPl (p : List Int) (N : Nat) (d : Int) : Prop := p.length = N ∧ ∀ x ∈ p, 0 ≤ x ∧ x < p2 d
theorem IsPl.snoc {p : List Int} {i : Nat} {d x : Int} (h : IsPl p i d) (h0 : 0 ≤ x) (h1 : x < p2 d) : IsPl (p ++ [x]) (i + 1) d := by
  refine ⟨by simp [h.1], fun y hy => ?_⟩
  rcases List.mem_append.1 hy with hy | hy
  · exact h.2 y hy
  · simp only [List.mem_singleton] at hy; subst hy; exact ⟨h0, h1⟩

set_option maxHeartbeats 4000000 in
theorem plane_c {G : Nat → Prop} {w : World} {t : Nat} {v : Value} {l : List Int} (h : Tp w t v l.length) (hr : Rd G w v l.length (intsV l)) (hg : ¬ G t) (hl : l.length ≤ maxLen) (hG : ∀ k, G k → k < w.heap.size) (W H' : Nat) (d : Int) (hW : 1 ≤ W) (hW2 : W ≤ 64) (hH : H' ≤ 64) (hd : dep d = true) :
    Calls Try.prog 19 [.pointer (some ⟨t, 0, none⟩), .int .i64 W, .int .i64 H', .int .i64 d].toArray w (Ret fun r w' => ∃ p : List Int, IsPl p (W * H') d ∧ TpA w t v l.length w' ∧ ∃ Gs, Sep w.heap.size w' [.own 3 1 r (W * H') (intsV p)] Gs) := by
  refine F_sound c19 (by simp [fc19]) ?_
  have hd' := dep_iff.1 hd
  have hp := p2_bd hd'.2
  have hs := shl_p2 (d := d) (by omega) (by omega)
  have wd : IntKind.u64.wrap d = d := wU (by omega) (by omega)
  have H := Hp.openG h
  have hm0 : W * H' ≤ 64 * 64 := Nat.mul_le_mul hW2 hH
  have hmi : ((W : Int) * (H' : Int)) = ((W * H' : Nat) : Int) := by rw [Int.natCast_mul]
  have hmw : IntKind.i64.wrap ((W : Int) * (H' : Int)) = ((W * H' : Nat) : Int) := by rw [hmi]; exact wI (by omega) (by omega)
  simp [fc19, s19]
  refine call_h (next_c h hr hg hl 7 (by omega)) (by simp) ?_
  rintro r w1 ⟨kind, rfl, k0, k1, A⟩
  obtain ⟨_, _, _, up⟩ := H.tp 0 rfl
  replace H := up _ A
  have hr1 := hr.mod A.2 (fun k hk hk' => hg (hk' ▸ hk))
  refine call_h (next_c A.1 hr1 hg hl 1048576 (by omega)) (by simp) ?_
  rintro r w2 ⟨seed, rfl, s0, s1, A2⟩
  obtain ⟨_, _, _, up⟩ := H.tp 0 rfl
  replace H := up _ A2
  have k1' := k1 (by omega)
  have s1' := s1 (by omega)
  simp
  refine ⟨rfl, ?_⟩
  refine box_h (.agg #[.int .i64 seed]) H (by simp [putAt, Value.cells]) ?_
  intro rb w3 H M3
  refine ⟨.inl rfl, ?_⟩
  simp [wd, hs, hd'.1]
  refine ⟨by omega, ?_⟩
  replace H : Hp (bare w) w3 [.tp t v l.length, .old w fun k => k = t, .blk rb #[.int .i64 seed]] := H
  refine for_r (W * H') (fun i env' w' => env' 1 = .int .i64 W ∧ env' 2 = .int .i64 H' ∧ env' 9 = .int .i64 kind ∧ env' 10 = .int .i64 seed ∧ env' 11 = .pointer (some ⟨rb, 0, none⟩) ∧ env' 12 = .int .i64 (p2 d) ∧ env' 14 = .int .i64 i ∧
    ∃ (p : List Int) (s : Int), IsPl p i d ∧ Hp (bare w) w' [.tp t v l.length, .old w fun k => k = t, .blk rb #[.int .i64 s], .own 3 1 (env' 13) i (intsV p)]) ?_ ?_ ?_
  · simp
    exact ⟨[], ⟨rfl, fun x hx => by cases hx⟩, _, H.nilS⟩
  · rintro i env w' hi ⟨e1, e2, e9, e10, e11, e12, e14, p, s, hpl, H⟩
    simp [e1, e2, e14, hmw]
    refine ite_r (t := true) (by simp; omega) (fun _ => ?_) (fun h => by cases h)
    simp
    rw [wp_blk]
    have hx0 : (i : Int).tmod (W : Int) = ((i % W : Nat) : Int) := by rw [Int.tmod_eq_emod_of_nonneg (by omega)]; rfl
    have hy0 : (i : Int).tdiv (W : Int) = ((i / W : Nat) : Int) := by rw [Int.tdiv_eq_ediv_of_nonneg (by omega)]; rfl
    have hwn : W ≠ 0 := by omega
    have hxb : i % W < 64 := by have := Nat.mod_lt i (show W > 0 by omega); omega
    have hyb : i / W < 64 := by
      have := Nat.div_lt_of_lt_mul (m := i) (n := W) (k := H') hi
      omega
    have hw1 : IntKind.i64.wrap ((i : Int) + 1) = ((i + 1 : Nat) : Int) := by rw [wI (by omega) (by omega)]; omega
    have hwy0 : ∀ y : Nat, y < 64 → IntKind.i64.wrap (y : Int) = (y : Int) := fun y _ => wI (by omega) (by omega)
    have hwy := hwy0 (i / W) hyb
    simp [-Int.natCast_emod, -Int.natCast_ediv, e1, e9, e14, hx0, hy0, hwn, hwy]
    generalize i % W = X at *
    generalize i / W = Y at *
    replace H := H.drew
    refine blk_cut (fun env' w' => env' 1 = .int .i64 W ∧ env' 2 = .int .i64 H' ∧ env' 9 = .int .i64 kind ∧ env' 10 = .int .i64 seed ∧ env' 11 = .pointer (some ⟨rb, 0, none⟩) ∧ env' 12 = .int .i64 (p2 d) ∧ env' 14 = .int .i64 i ∧ env' 13 = env 13 ∧
      (∃ x : Int, env' 17 = .int .i64 x ∧ 0 ≤ x) ∧ ∃ s : Int, Hp (bare w) w' [.tp t v l.length, .old w fun k => k = t, .blk rb #[.int .i64 s], .own 3 1 (env 13) i (intsV p)]) ?_ ?_
    · simp
      by_cases c0 : kind = 0
      · refine ite_r (t := true) (by simp [c0]) (fun _ => ?_) (fun h => by cases h)
        simp [e1, e2, e9, e10, e11, e12, e14]
        exact ⟨s0, s, H⟩
      refine ite_r (t := false) (by simp [c0]) (fun h => by cases h) (fun _ => ?_)
      simp [e9]
      by_cases c1 : kind = 1
      · refine ite_r (t := true) (by simp [c1]) (fun _ => ?_) (fun h => by cases h)
        refine call_h (rnext_c 2 H rfl 65536 (by omega)) (by simp [e11]) ?_
        rintro r w5 ⟨x, s', rfl, x0, x1, H⟩
        simp [e1, e2, e9, e10, e11, e12, e14]
        exact ⟨x0, s', H⟩
      refine ite_r (t := false) (by simp [c1]) (fun h => by cases h) (fun _ => ?_)
      simp [e9]
      by_cases c2 : kind = 2
      · refine ite_r (t := true) (by simp [c2]) (fun _ => ?_) (fun h => by cases h)
        simp [e10]
        refine call_h (rnext_c 2 H rfl 3 (by omega)) (by simp [e11]) ?_
        rintro r w5 ⟨x, s', rfl, x0, x1, H⟩
        have q1 : IntKind.i64.wrap (3 * (X : Int)) = 3 * (X : Int) := wI (by omega) (by omega)
        have q2 : IntKind.i64.wrap (seed + 3 * (X : Int)) = seed + 3 * (X : Int) := wI (by omega) (by omega)
        have q3 : IntKind.i64.wrap (2 * (Y : Int)) = 2 * (Y : Int) := wI (by omega) (by omega)
        have q4 : IntKind.i64.wrap (seed + 3 * (X : Int) + 2 * (Y : Int)) = seed + 3 * (X : Int) + 2 * (Y : Int) := wI (by omega) (by omega)
        have q5 : IntKind.i64.wrap (seed + 3 * (X : Int) + 2 * (Y : Int) + x) = seed + 3 * (X : Int) + 2 * (Y : Int) + x := wI (by omega) (by omega)
        simp [e1, e2, e9, e10, e11, e12, e14, q1, q2, q3, q4, q5]
        exact ⟨by omega, s', H⟩
      refine ite_r (t := false) (by simp [c2]) (fun h => by cases h) (fun _ => ?_)
      simp [e9]
      by_cases c3 : kind = 3
      · refine ite_r (t := true) (by simp [c3]) (fun _ => ?_) (fun h => by cases h)
        refine call_h (rnext_c 2 H rfl 5 (by omega)) (by simp [e11]) ?_
        rintro r w5 ⟨x, s', rfl, x0, x1, H⟩
        have q1 : IntKind.i64.wrap (x * 7) = x * 7 := wI (by omega) (by omega)
        have q2 : IntKind.i64.wrap (seed + x * 7) = seed + x * 7 := wI (by omega) (by omega)
        simp [e1, e2, e9, e10, e11, e12, e14, q1, q2]
        exact ⟨by omega, s', H⟩
      refine ite_r (t := false) (by simp [c3]) (fun h => by cases h) (fun _ => ?_)
      simp [e9]
      by_cases c4 : kind = 4
      · refine ite_r (t := true) (by simp [c4]) (fun _ => ?_) (fun h => by cases h)
        have t1 : (X : Int).tdiv 3 = ((X / 3 : Nat) : Int) := by rw [Int.tdiv_eq_ediv_of_nonneg (by omega)]; rfl
        have t2 : (Y : Int).tdiv 4 = ((Y / 4 : Nat) : Int) := by rw [Int.tdiv_eq_ediv_of_nonneg (by omega)]; rfl
        have q5 : IntKind.i64.wrap ((X / 3 : Nat) : Int) = ((X / 3 : Nat) : Int) := wI (by omega) (by omega)
        have q6 : IntKind.i64.wrap ((Y / 4 : Nat) : Int) = ((Y / 4 : Nat) : Int) := wI (by omega) (by omega)
        have q1 : IntKind.i64.wrap (((X / 3 : Nat) : Int) * 11) = ((X / 3 : Nat) : Int) * 11 := wI (by omega) (by omega)
        have q2 : IntKind.i64.wrap (seed + ((X / 3 : Nat) : Int) * 11) = seed + ((X / 3 : Nat) : Int) * 11 := wI (by omega) (by omega)
        have q3 : IntKind.i64.wrap (seed + ((X / 3 : Nat) : Int) * 11 + ((Y / 4 : Nat) : Int)) = seed + ((X / 3 : Nat) : Int) * 11 + ((Y / 4 : Nat) : Int) := wI (by omega) (by omega)
        simp [-Int.natCast_ediv, e1, e2, e9, e10, e11, e12, e14, t1, t2, q1, q2, q3, q5, q6]
        exact ⟨by omega, s, H⟩
      refine ite_r (t := false) (by simp [c4]) (fun h => by cases h) (fun _ => ?_)
      simp [e9]
      have hXX : X * X ≤ 64 * 64 := Nat.mul_le_mul (by omega) (by omega)
      have hYY : Y * Y ≤ 64 * 64 := Nat.mul_le_mul (by omega) (by omega)
      by_cases c5 : kind = 5
      · refine ite_r (t := true) (by simp [c5]) (fun _ => ?_) (fun h => by cases h)
        have e15 : (X : Int) * (X : Int) = ((X * X : Nat) : Int) := by rw [Int.natCast_mul]
        have e16 : (Y : Int) * (Y : Int) = ((Y * Y : Nat) : Int) := by rw [Int.natCast_mul]
        have q1 : IntKind.i64.wrap ((X * X : Nat) : Int) = ((X * X : Nat) : Int) := wI (by omega) (by omega)
        have q2 : IntKind.i64.wrap ((Y * Y : Nat) : Int) = ((Y * Y : Nat) : Int) := wI (by omega) (by omega)
        generalize X * X = XX at *
        generalize Y * Y = YY at *
        have t1 : (YY : Int).tdiv 2 = ((YY / 2 : Nat) : Int) := by rw [Int.tdiv_eq_ediv_of_nonneg (by omega)]; rfl
        have q5 : IntKind.i64.wrap ((YY / 2 : Nat) : Int) = ((YY / 2 : Nat) : Int) := wI (by omega) (by omega)
        have q3 : IntKind.i64.wrap (seed + (XX : Int)) = seed + (XX : Int) := wI (by omega) (by omega)
        have q4 : IntKind.i64.wrap (seed + (XX : Int) + ((YY / 2 : Nat) : Int)) = seed + (XX : Int) + ((YY / 2 : Nat) : Int) := wI (by omega) (by omega)
        simp [-Int.natCast_ediv, e1, e2, e9, e10, e11, e12, e14, e15, e16, t1, q1, q2, q3, q4, q5]
        exact ⟨by omega, s, H⟩
      refine ite_r (t := false) (by simp [c5]) (fun h => by cases h) (fun _ => ?_)
      have q1 : IntKind.i64.wrap (3 * (Y : Int)) = 3 * (Y : Int) := wI (by omega) (by omega)
      have q2 : IntKind.i64.wrap ((X : Int) + 3 * (Y : Int)) = (X : Int) + 3 * (Y : Int) := wI (by omega) (by omega)
      have t1 : ((X : Int) + 3 * (Y : Int)).tmod 5 = ((X : Int) + 3 * (Y : Int)) % 5 := Int.tmod_eq_emod_of_nonneg (by omega)
      have q3 : IntKind.i64.wrap (((X : Int) + 3 * (Y : Int)) % 5 * 9) = ((X : Int) + 3 * (Y : Int)) % 5 * 9 := wI (by omega) (by omega)
      have q4 : IntKind.i64.wrap (seed + ((X : Int) + 3 * (Y : Int)) % 5 * 9) = seed + ((X : Int) + 3 * (Y : Int)) % 5 * 9 := wI (by omega) (by omega)
      simp [e1, e2, e9, e10, e11, e12, e14, q1, q2, q3, q4, t1]
      exact ⟨by omega, s, H⟩
    · rintro env2 w4 ⟨f1, f2, f9, f10, f11, f12, f14, f13, ⟨x, f17, hx⟩, s', H⟩
      have hxm : x.tmod (p2 d) = x % p2 d := Int.tmod_eq_emod_of_nonneg hx
      have hxx := mod_bd x hd'.2
      simp [f12, f17, f13, hxm]
      refine ⟨by omega, ?_⟩
      refine app1_h slTI 3 H rfl (u := .int .i64 (x % p2 d)) (by simp) (by omega) (by unfold maxLen; omega) (by simp [f12, f17, hxm]) (by simp [f13]) (by simp) (by simp) ?_
      intro vb v' w5 w6 H
      refine ⟨.inl rfl, ?_⟩
      simp [-Int.natCast_add, hw1, f1, f2, f9, f10, f11, f12, f14]
      rw [intsV_snoc] at H
      exact ⟨by omega, _, hpl.snoc hxx.1 hxx.2, s', H⟩
  · rintro env w' ⟨e1, e2, e9, e10, e11, e12, e14, p, s, hpl, H⟩
    simp [e1, e2, e14, hmw]
    refine ite_r (t := false) (by simp) (fun h => by cases h) (fun _ => ?_)
    obtain ⟨q1, q2, Gs, q3⟩ := Hp.shutG tp_only (H.drop 2)
    simp
    exact ⟨p, hpl, ⟨q1, q2⟩, Gs, q3⟩

end Go.Proofs.Ytbncppklmhfnmaa.VG
