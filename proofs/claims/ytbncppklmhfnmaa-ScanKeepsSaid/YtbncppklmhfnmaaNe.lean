/-
  Scan: the document's order by turns.
-/
import Derived.Test.YtbncppklmhfnmaaNd
namespace Go.Proofs.Ytbncppklmhfnmaa.VG
open Go
set_option linter.unusedSimpArgs false
set_option linter.unusedVariables false
set_option maxRecDepth 20000

theorem gi_set (l : List Int) (i j : Nat) (v : Int) (h : i < l.length) : gi (l.set i v) j = if j = i then v else gi l j := by
  by_cases hj : j = i
  · subst hj; simp [gi, h]
  · rw [if_neg hj]; simp [gi, List.getElem?_set, Ne.symm hj]
theorem intsV_put (l : List Int) (i : Nat) (v : Int) : (intsV l).set i (.int .i64 v) = intsV (l.set i v) := by simp [intsV, List.map_set]

set_option maxHeartbeats 2000000 in
theorem turns_c {w : World} {x y : Nat} (hx : x < 64) (hy : y < 64) : Calls Try.prog 36 [.int .i64 x, .int .i64 y].toArray w (Ret fun r w' => r = .int .i64 (turnsT x y 6) ∧ w' = w) := by
  refine F_sound c36 (by simp [fc36]) ?_
  simp [fc36, s36]
  refine for_r 6 (fun k env' w' => env' 0 = .int .i64 x ∧ env' 1 = .int .i64 y ∧ env' 6 = .int .i64 (5 - (k : Int)) ∧ env' 5 = .int .i64 (turnsT x y k) ∧ w' = w) ?_ ?_ ?_
  · simp [turnsT]
  · rintro k env _ hk ⟨e0, e1, e6, e5, rfl⟩
    obtain ⟨s, hs⟩ : ∃ s, s = 5 - k := ⟨_, rfl⟩
    have e6' : (5 - (k : Int)) = (s : Int) := by omega
    rw [e6'] at e6
    have cs : IntKind.u64.wrap (s : Int) = (s : Int) := wrap_nat_u64 (by omega)
    obtain ⟨xs, hxs⟩ : ∃ q, q = x / 2 ^ s := ⟨_, rfl⟩
    obtain ⟨ys, hys⟩ : ∃ q, q = y / 2 ^ s := ⟨_, rfl⟩
    have fx : shr .i64 (x : Int) (s : Int) = (xs : Int) := by rw [hxs]; exact shr_nat .i64 x s (by show s ≤ 64; omega)
    have fy : shr .i64 (y : Int) (s : Int) = (ys : Int) := by rw [hys]; exact shr_nat .i64 y s (by show s ≤ 64; omega)
    have lx : xs < 64 := by have := Nat.div_le_self x (2 ^ s); omega
    have ly : ys < 64 := by have := Nat.div_le_self y (2 ^ s); omega
    obtain ⟨bx, hbx⟩ : ∃ k, k = xs % 2 := ⟨_, rfl⟩
    obtain ⟨by', hby⟩ : ∃ k, k = ys % 2 := ⟨_, rfl⟩
    have gx : bitw .and .i64 (xs : Int) 1 = (bx : Int) := by rw [hbx]; exact bitw_and1 (by show xs < 18446744073709551616; omega)
    have gy : bitw .and .i64 (ys : Int) 1 = (by' : Int) := by rw [hby]; exact bitw_and1 (by show ys < 18446744073709551616; omega)
    obtain ⟨t, ht⟩ : ∃ t, t = turnsT x y k := ⟨_, rfl⟩
    have lt : t < 1024 := by
      have h1 := turnsT_lt x y k
      have h2 : 4 ^ k ≤ 4 ^ 5 := Nat.pow_le_pow_right (by omega) (by omega)
      omega
    obtain ⟨t4, ht4⟩ : ∃ q, q = t * 4 := ⟨_, rfl⟩
    obtain ⟨y2, hy2⟩ : ∃ q, q = by' * 2 := ⟨_, rfl⟩
    have st : shl .i64 (t : Int) 2 = (t4 : Int) := by
      have := shl_nat .i64 t 2 (by show 2 ≤ 64; omega)
      rw [show ((2 : Nat) : Int) = 2 from rfl] at this
      rw [this, wI (by omega) (by omega)]
      omega
    have sy : shl .i64 (by' : Int) 1 = (y2 : Int) := by
      have := shl_nat .i64 by' 1 (by show 1 ≤ 64; omega)
      rw [show ((1 : Nat) : Int) = 1 from rfl] at this
      rw [this, wI (by omega) (by omega)]
      omega
    have o1 := or_mid (show t4 < 4096 by omega) (show y2 < 4096 by omega)
    obtain ⟨u, hu⟩ : ∃ q, q = t4 ||| y2 := ⟨_, rfl⟩
    have lu : u < 4096 := by rw [hu]; exact Nat.or_lt_two_pow (n := 12) (by omega) (by omega)
    rw [← hu] at o1
    have o2 := or_mid lu (show bx < 4096 by omega)
    have hn : turnsT x y (k + 1) = u ||| bx := by rw [turnsT, ← ht, ← hs, ← hxs, ← hys, ← hbx, ← hby, ← ht4, ← hy2, ← hu]
    have ws : IntKind.i64.wrap ((s : Int) - 1) = 5 - ((k : Int) + 1) := by rw [wI (by omega) (by omega)]; omega
    rw [← ht] at e5
    simp [e6]
    refine ite_r (t := true) (by simp) (fun _ => ?_) (fun h => by cases h)
    rw [wp_nil, thn_normal, wp_blk]
    refine chk_s (by simp [e5]) ?_
    refine chk_s (by simp [e6]) ?_
    refine chk_s (by simp [e1, e6, cs]) ?_
    refine chk_s (by simp [e6]) ?_
    refine chk_s (by simp [e0, e6, cs]) ?_
    refine set_s (v := .int .i64 (turnsT x y (k + 1))) (by simp [e0, e1, e5, e6, cs, fx, fy, gx, gy, st, sy, o1, o2, hn]) ?_
    simp [e0, e1, e6, ws, -Int.natCast_add]
  · rintro env _ ⟨e0, e1, e6, e5, rfl⟩
    simp [e6]
    refine ite_r (t := false) (by simp) (fun h => by cases h) (fun _ => ?_)
    simp [e5]

/-- Where the first k places stand. -/
def whT (W M : Nat) : Nat → List Int
  | 0 => List.replicate M 0
  | k + 1 => (whT W M k).set (turnsT (k % W) (k / W) 6) ((k + 1 : Nat) : Int)
theorem whT_len (W M : Nat) : ∀ k, (whT W M k).length = M
  | 0 => by simp [whT]
  | k + 1 => by simp [whT, whT_len W M k]
theorem whT_gi {W H M : Nat} (hW : 1 ≤ W ∧ W ≤ 64) (hH : H ≤ 64) (hM : M = 4096) : ∀ k, k ≤ W * H → ∀ i, i < M → gi (whT W M k) i = if dxT i 6 < W ∧ dyT i 6 * W + dxT i 6 < k then ((dyT i 6 * W + dxT i 6 + 1 : Nat) : Int) else 0
  | 0, _, i, hi => by simp [whT, gi, hi]
  | k + 1, hk, i, hi => by
    have hm := Nat.mod_lt k hW.1
    have hd : k / W < H := Nat.div_lt_of_lt_mul (by omega)
    have hlt := turnsT_lt (k % W) (k / W) 6
    rw [whT, gi_set _ _ _ _ (by rw [whT_len, hM]; exact hlt), whT_gi hW hH hM k (by omega) i hi]
    have ek := Nat.div_add_mod k W
    rw [Nat.mul_comm] at ek
    by_cases he : i = turnsT (k % W) (k / W) 6
    · obtain ⟨e1, e2⟩ := enc_dec (k % W) (by omega) (k / W) (Nat.lt_of_lt_of_le hd hH)
      rw [if_pos he, he, e1, e2, ek, if_pos ⟨hm, by omega⟩]
    · rw [if_neg he]
      by_cases hx : dxT i 6 < W
      · have hne : dyT i 6 * W + dxT i 6 ≠ k := by
          intro e
          obtain ⟨p1, p2⟩ := place (y := dyT i 6) hx
          rw [e] at p1 p2
          apply he
          rw [p1, p2, dec_enc i (by omega)]
        by_cases hlt : dyT i 6 * W + dxT i 6 < k
        · rw [if_pos ⟨hx, hlt⟩, if_pos ⟨hx, by omega⟩]
        · rw [if_neg (fun h => hlt h.2), if_neg (fun h => by have := h.2; omega)]
      · rw [if_neg (fun h => hx h.1), if_neg (fun h => hx h.1)]
theorem whT_end {W H M : Nat} (hW : 1 ≤ W ∧ W ≤ 64) (hH : H ≤ 64) (hM : M = 4096) (i : Nat) (hi : i < M) : gi (whT W M (W * H)) i = if inP W H i = true then ((dyT i 6 * W + dxT i 6 + 1 : Nat) : Int) else 0 := by
  rw [whT_gi hW hH hM _ (Nat.le_refl _) i hi]
  have : (dxT i 6 < W ∧ dyT i 6 * W + dxT i 6 < W * H) ↔ inP W H i = true := by
    simp only [inP, Bool.and_eq_true, decide_eq_true_eq]
    constructor
    · rintro ⟨h1, h2⟩
      refine ⟨h1, ?_⟩
      obtain ⟨p1, p2⟩ := place (y := dyT i 6) h1
      have := Nat.div_lt_of_lt_mul h2
      rwa [p1] at this
    · rintro ⟨h1, h2⟩
      refine ⟨h1, ?_⟩
      have h3 : (dyT i 6 + 1) * W ≤ H * W := Nat.mul_le_mul_right _ h2
      rw [Nat.succ_mul, Nat.mul_comm H W] at h3
      omega
  by_cases h : inP W H i = true
  · rw [if_pos h, if_pos (this.2 h)]
  · rw [if_neg h, if_neg (fun h' => h (this.1 h'))]

set_option maxHeartbeats 2000000 in
theorem byTurns_c {w : World} {W H' : Nat} (hW : 1 ≤ W ∧ W ≤ 64) (hH : 1 ≤ H' ∧ H' ≤ 64) (M : Nat) (hM : M = 4096) : Calls Try.prog 30 [.int .i64 W, .int .i64 H'].toArray w (Ret fun r w' => OwnRow w w' r (digL W H' M)) := by
  refine F_sound c30 (by simp [fc30]) ?_
  simp [fc30, s30]
  refine mkN_h slTI (kl := .i64) (kc := .i64) (n := M) (xs := intsV (List.replicate M 0)) (Hp.nil w) (by simp [hM]) (by simp [hM]) (by omega) (by unfold maxLen; omega) (fun z hz => by rw [zero64 hz, intsV_zeros]) ?_
  intro rv w1 H M1
  refine ⟨.inl rfl, ?_⟩
  have hWH : W * H' ≤ 64 * 64 := Nat.mul_le_mul hW.2 hH.2
  have eWH : (W : Int) * (H' : Int) = ((W * H' : Nat) : Int) := by rw [Int.natCast_mul]
  obtain ⟨N, hN⟩ : ∃ N, N = W * H' := ⟨_, rfl⟩
  rw [← hN] at hWH eWH
  have wN : IntKind.i64.wrap (N : Int) = (N : Int) := wI (by omega) (by omega)
  simp
  refine for_r N (fun k env' w' => env' 0 = .int .i64 W ∧ env' 1 = .int .i64 H' ∧ env' 5 = rv ∧ env' 6 = .int .i64 k ∧ Hp w w' [.own 3 1 rv M (intsV (whT W M k))]) ?_ ?_ ?_
  · simp [whT]
    exact H
  · rintro k env w2 hk ⟨e0, e1, e5, e6, H⟩
    have hm := Nat.mod_lt k hW.1
    have hd : k / W < H' := Nat.div_lt_of_lt_mul (by omega)
    have wk : IntKind.i64.wrap ((k : Int) + 1) = ((k + 1 : Nat) : Int) := by rw [wI (by omega) (by omega)]; omega
    simp [e0, e1, e6, eWH, wN]
    refine ite_r (t := true) (by simp; omega) (fun _ => ?_) (fun h => by cases h)
    simp [wp_blk, e0, e6]
    have t1 : (k : Int).tmod (W : Int) = ((k % W : Nat) : Int) := rfl
    have t2 : (k : Int).tdiv (W : Int) = ((k / W : Nat) : Int) := rfl
    generalize hqx : k % W = qx at *
    generalize hqy : k / W = qy at *
    have w2' : IntKind.i64.wrap (qy : Int) = (qy : Int) := wI (by omega) (by omega)
    refine ⟨by omega, ?_⟩
    refine callp (turns_c (x := qx) (y := qy) (by omega) (by omega)) (by simp [e0, e6, t1, t2, w2']) ?_
    have hlt := turnsT_lt qx qy 6
    have hwt : whT W M (k + 1) = (whT W M k).set (turnsT qx qy 6) ((k + 1 : Nat) : Int) := by rw [whT, hqx, hqy]
    generalize turnsT qx qy 6 = T at *
    have hT : T < M := by omega
    replace H := H.drew
    obtain ⟨rS, rL⟩ := (H.rd 0 rfl).sl
    have hpr := (H.rd 0 rfl).ptr (by rw [intsV_length, whT_len]; omega)
    simp [-Int.natCast_add, e5, e6, rS, rL, hT, hpr.1, wk]
    refine set_h 0 H rfl (i := T) (u := .int .i64 ((k + 1 : Nat) : Int)) hT (by simp [e5, rS, rL, hT, hpr.1]) (by simp [e6, wk, -Int.natCast_add]) (by simp) ?_
    intro w3 H
    refine ⟨.inl rfl, ?_⟩
    simp [-Int.natCast_add, e0, e1, e5, e6, wk]
    simp only [List.set_cons_zero] at H
    rw [intsV_put, ← hwt] at H
    exact ⟨by omega, H⟩
  · rintro env w2 ⟨e0, e1, e5, e6, H⟩
    simp [e0, e1, e6, eWH, wN]
    refine ite_r (t := false) (by simp) (fun h => by cases h) (fun _ => ?_)
    simp
    obtain ⟨rS, rL⟩ := (H.rd 0 rfl).sl
    have H := H.nilS (e := 3) (size := 1)
    refine for_r M (fun i env' w' => env' 5 = rv ∧ env' 8 = .int .i64 i ∧ Hp w w' [.own 3 1 rv M (intsV (whT W M N)), .own 3 1 (env' 7) (digL W H' i).length (intsV (digL W H' i))]) ?_ ?_ ?_
    · simp [e5, digL, pik]
      simpa using H
    · rintro i env w3 hi ⟨e5, e8, H⟩
      have wi : IntKind.i64.wrap ((i : Int) + 1) = ((i + 1 : Nat) : Int) := by rw [wI (by omega) (by omega)]; omega
      have hlen : (digL W H' i).length ≤ i := pik_len _ _ i
      have hil : i < (whT W M N).length := by rw [whT_len]; exact hi
      have hg := (H.rd 0 rfl).gi i hil
      have hpr := (H.rd 0 rfl).some (by omega)
      have hv : gi (whT W M N) i = if inP W H' i = true then ((dyT i 6 * W + dxT i 6 + 1 : Nat) : Int) else 0 := by rw [hN]; exact whT_end hW hH.2 hM i hi
      generalize gi (whT W M N) i = v at *
      generalize hrv : env 7 = qv at *
      simp [e5, e8, rS, rL]
      refine ite_r (t := true) (by simp; omega) (fun _ => ?_) (fun h => by cases h)
      simp [wp_blk, e5, e8, rS, rL, hi, hpr, hg]
      refine ite_cut (fun env' w' => env' 5 = rv ∧ env' 8 = .int .i64 i ∧ Hp w w' [.own 3 1 rv M (intsV (whT W M N)), .own 3 1 (env' 7) (digL W H' (i + 1)).length (intsV (digL W H' (i + 1)))]) (t := inP W H' i) ?_ ?_ ?_ ?_
      · cases hin : inP W H' i
        · rw [hin] at hv
          simp at hv
          simp [hv]
        · rw [if_pos hin] at hv
          have : 0 < v := by omega
          simp [this]
      · intro ht
        rw [if_pos ht] at hv
        have hd : digL W H' (i + 1) = digL W H' i ++ [((dyT i 6 * W + dxT i 6 : Nat) : Int)] := pik_yes ht
        have lx : dxT i 6 < 64 := dxT_lt i 6
        have ly : dyT i 6 < 64 := dyT_lt i 6
        have hyW : dyT i 6 * W ≤ 63 * 64 := Nat.mul_le_mul (by omega) (by omega)
        have hz : dyT i 6 * W + dxT i 6 ≤ 4095 := by omega
        generalize dyT i 6 * W + dxT i 6 = z at *
        have wv : IntKind.i64.wrap (v - 1) = (z : Int) := by rw [wI (by omega) (by omega)]; omega
        simp [e5, e8, rS, rL, hi, hpr, hg, wv]
        refine app1_h slTI 1 H rfl (u := .int .i64 (z : Int)) (by simp) (by omega) (by unfold maxLen; omega) (by simp [wv]) (by simp [hrv]) (by simp) (by simp) ?_
        intro vb v' w5 w6 H
        refine ⟨.inl rfl, ?_⟩
        simp [e5, e8]
        simp only [List.set_cons_succ, List.set_cons_zero] at H
        rw [intsV_snoc, ← hd] at H
        rw [hd] at H ⊢
        simpa using H
      · intro ht
        have hd : digL W H' (i + 1) = digL W H' i := pik_no ht
        simp [e5, e8, hrv, hd]
        exact H
      · rintro env w4 ⟨e5, e8, H⟩
        simp [e5, e8, wi, -Int.natCast_add]
        exact ⟨by omega, H⟩
    · rintro env w3 ⟨e5, e8, H⟩
      simp [e5, e8, rS, rL]
      refine ite_r (t := false) (by simp) (fun h => by cases h) (fun _ => ?_)
      simp
      exact H.drop 0

end Go.Proofs.Ytbncppklmhfnmaa.VG
