/-
  Scan: what the first passes show, in the document.
-/
import Derived.Test.YtbncppklmhfnmaaNl
namespace Go.Proofs.Ytbncppklmhfnmaa.VG
open Go
set_option linter.unusedSimpArgs false
set_option linter.unusedVariables false
set_option maxRecDepth 20000

set_option maxHeartbeats 4000000 in
theorem scanRough_c {G : Nat → Prop} {w : World} {v : Value} {l : List Int} (hr : Rd G w v l.length (intsV l)) (hl : l.length ≤ 1000000) (wd h p : Int) :
    Calls Try.prog 23 [v, .int .i64 wd, .int .i64 h, .int .i64 p].toArray w (Ret fun r w' => OwnRow w w' r (roughI l wd h p)) := by
  refine F_sound c23 (by simp [fc23]) ?_
  obtain ⟨hS, hL⟩ := hr.sl
  simp [fc23, s23, hS, hL]
  refine callp (side2_c wd) (by simp) ?_
  by_cases hwb : 1 ≤ wd ∧ wd ≤ 64
  rotate_left
  · have hw1 : (decide (1 ≤ wd) && decide (wd ≤ 64)) = false := by simp; omega
    have hsz : roughI l wd h p = [] := by simp [roughI, mayB, hw1]
    rw [hw1, hsz]
    simp
    refine ifg_r (t := true) (by simp) (fun h => by cases h) (fun _ => ?_)
    simp
    refine ite_r (t := true) (by simp) (fun _ => ?_) (fun h => by cases h)
    simp
    exact OwnRow.nil (Mod.refl _ _)
  have hw1 : (decide (1 ≤ wd) && decide (wd ≤ 64)) = true := by simp; omega
  rw [hw1]
  simp
  refine ifg_r (t := false) (by simp) (fun _ => ?_) (fun h => (h rfl).elim)
  refine callp (side2_c h) (by simp) ?_
  by_cases hhb : 1 ≤ h ∧ h ≤ 64
  rotate_left
  · have hh1 : (decide (1 ≤ h) && decide (h ≤ 64)) = false := by simp; omega
    have hsz : roughI l wd h p = [] := by simp [roughI, mayB, hh1, Bool.and_assoc]
    rw [hh1, hsz]
    simp
    refine ite_r (t := true) (by simp) (fun _ => ?_) (fun h => by cases h)
    simp
    exact OwnRow.nil (Mod.refl _ _)
  have hh1 : (decide (1 ≤ h) && decide (h ≤ 64)) = true := by simp; omega
  have hm := mayB_iff.2 ⟨hwb, hhb⟩
  obtain ⟨W, rfl⟩ : ∃ W : Nat, wd = W := ⟨wd.toNat, by omega⟩
  obtain ⟨H', rfl⟩ : ∃ H' : Nat, h = H' := ⟨h.toNat, by omega⟩
  have hW : 1 ≤ W ∧ W ≤ 64 := by omega
  have hH : 1 ≤ H' ∧ H' ≤ 64 := by omega
  have hWH : W * H' ≤ 64 * 64 := Nat.mul_le_mul hW.2 hH.2
  have eWH : (W : Int) * (H' : Int) = ((W * H' : Nat) : Int) := by rw [Int.natCast_mul]
  obtain ⟨N, hN⟩ : ∃ N, N = W * H' := ⟨_, rfl⟩
  have hsz : roughI l W H' p = if l.length = N then (if p ≤ 0 then List.replicate l.length 0 else roughL l W (stX (min p 7).toNat) (stY (min p 7).toNat) l.length) else [] := by
    unfold roughI
    have e : (mayB (W : Int) (H' : Int) = true ∧ (l.length : Int) = (W : Int) * (H' : Int)) ↔ l.length = N := by
      rw [eWH, ← hN]
      constructor
      · intro h; omega
      · intro h; exact ⟨hm, by omega⟩
    by_cases hh : l.length = N
    · rw [if_pos hh, if_pos (e.2 hh), Int.toNat_natCast]
    · rw [if_neg hh, if_neg (fun h => hh (e.1 h))]
  rw [← hN] at hWH eWH
  have wN : IntKind.i64.wrap (N : Int) = (N : Int) := wI (by omega) (by omega)
  rw [hh1, hsz]
  simp [hS, hL, eWH, wN]
  by_cases hlN : l.length = N
  rotate_left
  · rw [if_neg hlN]
    refine ite_r (t := true) (by simp; omega) (fun _ => ?_) (fun h => by cases h)
    simp
    exact OwnRow.nil (Mod.refl _ _)
  rw [if_pos hlN]
  refine ite_r (t := false) (by simp [hlN]) (fun h => by cases h) (fun _ => ?_)
  simp [hS, hL]
  refine mkN_h slTI (kl := .i64) (kc := .i64) (n := N) (xs := intsV (List.replicate N 0)) (Hp.nil w) (by simp [hS, hL, hlN]) (by simp [hS, hL, hlN]) (by omega) (by unfold maxLen; omega) (fun z hz => by rw [zero64 hz, intsV_zeros]) ?_
  intro rv w1 H M1
  refine ⟨.inl rfl, ?_⟩
  obtain ⟨rS, rL⟩ := (H.rd 0 rfl).sl
  simp
  obtain ⟨n, hn⟩ : ∃ n : Nat, n = (min (max p 0) 7).toNat := ⟨_, rfl⟩
  have hX : (if 7 < (if p < 0 then 0 else p) then (7 : Int) else if p < 0 then 0 else p) = (n : Int) := by
    by_cases h0 : p < 0
    · simp only [if_pos h0]; rw [if_neg (by omega)]; omega
    · simp only [if_neg h0]
      by_cases h7 : 7 < p
      · rw [if_pos h7]; omega
      · rw [if_neg h7]; omega
  rw [hX]
  by_cases hp : p ≤ 0
  · rw [if_pos hp]
    have : n = 0 := by omega
    subst this
    refine ite_r (t := true) (by simp) (fun _ => ?_) (fun h => by cases h)
    simp
    unfold OwnRow
    simp [hlN]
    exact H
  rw [if_neg hp]
  have hn17 : 1 ≤ n ∧ n ≤ 7 := by omega
  have hmn : (min p 7).toNat = n := by omega
  rw [hmn]
  refine ite_r (t := false) (by simp; omega) (fun h => by cases h) (fun _ => ?_)
  simp [putAt, Value.cells]
  refine ⟨by omega, ?_⟩
  obtain ⟨i2, hi2, hz2⟩ : ∃ i, Try.prog.info? 56 = some i ∧ i.zero = some (.agg #[.int .i64 0, .int .i64 0]) := ⟨_, rfl, rfl⟩
  have hpos : 0 < stX n ∧ 0 < stY n := by
    obtain rfl | rfl | rfl | rfl | rfl | rfl | rfl : n = 1 ∨ n = 2 ∨ n = 3 ∨ n = 4 ∨ n = 5 ∨ n = 6 ∨ n = 7 := by omega
    all_goals decide
  refine alloc_h H hi2 hz2 ?_
  intro b2 w4 H M4
  refine ⟨.inl rfl, ?_⟩
  refine stAll_h 1 H rfl (v := .agg (stV n)) rfl ?_ rfl rfl (by simp [Value.cells, stV]) ?_
  · clear hX hmn hp
    obtain rfl | rfl | rfl | rfl | rfl | rfl | rfl : n = 1 ∨ n = 2 ∨ n = 3 ∨ n = 4 ∨ n = 5 ∨ n = 6 ∨ n = 7 := by omega
    all_goals kernel_rfl
  intro w5 H
  refine ⟨.inl rfl, ?_⟩
  replace H : Hp w w5 [.own 3 1 rv N (intsV (List.replicate N 0)), .blk b2 (stV n)] := H
  simp
  generalize hsx : stX n = a at *
  generalize hsy : stY n = c at *
  have hst : stV n = #[.int .i64 a, .int .i64 c] := by rw [stV, hsx, hsy]
  rw [hst] at H
  refine for_r N (fun k env' w' => env' 0 = v ∧ env' 1 = .int .i64 W ∧ env' 10 = rv ∧ env' 11 = .pointer (some ⟨b2, 0, none⟩) ∧ env' 12 = .int .i64 k ∧
    Hp w w' [.own 3 1 rv N (intsV (roughL l W a c k ++ List.replicate (N - k) 0)), .blk b2 #[.int .i64 a, .int .i64 c]]) ?_ ?_ ?_
  · simp [roughL, mapTo]
    exact H
  · rintro k env w7 hk ⟨e0, e1, e10, e11, e12, H⟩
    have wk : IntKind.i64.wrap ((k : Int) + 1) = ((k + 1 : Nat) : Int) := by rw [wI (by omega) (by omega)]; omega
    have hmW := Nat.mod_lt k hW.1
    have hdH : k / W < H' := Nat.div_lt_of_lt_mul (by omega)
    have edm := Nat.div_add_mod k W
    rw [Nat.mul_comm] at edm
    have u1 : (k : Int).tmod (W : Int) = ((k % W : Nat) : Int) := rfl
    have u2 : (k : Int).tdiv (W : Int) = ((k / W : Nat) : Int) := rfl
    have hat : roughAt l W a c k = gi l ((k / W - k / W % c) * W + k % W - k % W % a) := rfl
    have hrl : roughL l W a c (k + 1) = roughL l W a c k ++ [roughAt l W a c k] := mapTo_succ _ _
    have hrlen : (roughL l W a c k).length = k := mapTo_len _ _
    rw [hat] at hrl
    generalize k % W = x at *
    generalize k / W = y at *
    have wu : IntKind.i64.wrap (y : Int) = (y : Int) := wI (by omega) (by omega)
    have t1 : (y : Int).tmod (c : Int) = ((y % c : Nat) : Int) := rfl
    have t2 : (x : Int).tmod (a : Int) = ((x % a : Nat) : Int) := rfl
    have hm1 := Nat.mod_le y c
    have hm2 := Nat.mod_le x a
    generalize hry : y % c = ry at *
    generalize hrx : x % a = rx at *
    have hle : (y - ry) * W ≤ y * W := Nat.mul_le_mul_right _ (by omega)
    have hyW : y * W ≤ 63 * 64 := Nat.mul_le_mul (by omega) (by omega)
    have wyr : IntKind.i64.wrap ((y : Int) - ry) = ((y - ry : Nat) : Int) := by rw [wI (by omega) (by omega)]; omega
    obtain ⟨y2, hy2⟩ : ∃ k, k = y - ry := ⟨_, rfl⟩
    rw [← hy2] at hle wyr hrl
    obtain ⟨sW, hsw⟩ : ∃ k, k = y2 * W := ⟨_, rfl⟩
    have es : (y2 : Int) * (W : Int) = (sW : Int) := by rw [hsw, Int.natCast_mul]
    rw [← hsw] at hle hrl
    have wsW : IntKind.i64.wrap (sW : Int) = (sW : Int) := wI (by omega) (by omega)
    obtain ⟨s1, hs1⟩ : ∃ k, k = sW + x := ⟨_, rfl⟩
    have ws1 : IntKind.i64.wrap ((sW : Int) + x) = (s1 : Int) := by rw [wI (by omega) (by omega)]; omega
    obtain ⟨s2, hs2⟩ : ∃ k, k = sW + x - rx := ⟨_, rfl⟩
    have ws2 : IntKind.i64.wrap ((s1 : Int) - rx) = (s2 : Int) := by rw [wI (by omega) (by omega)]; omega
    rw [← hs2] at hrl
    have hs2N : s2 < l.length := by omega
    simp [e0, e12, hS, hL]
    refine ite_r (t := true) (by simp; omega) (fun _ => ?_) (fun h => by cases h)
    replace H := H.drew.drew
    obtain ⟨_, _, c0, c1⟩ := blk2 (H.blk 1 rfl)
    have lc := (hr.at H.mod).gi s2 hs2N
    have lp := hr.some (by omega)
    have hpr := (H.rd 0 rfl).some (by simp [hrlen]; omega)
    simp only [cell_drew] at c0 c1 lc
    simp [wp_blk, e0, e1, e10, e11, e12, u1, u2, wu, c0, c1, t1, t2, wyr, es, wsW, ws1, ws2, hS, hL, lp, lc, hs2N, rS, rL, hk, hpr]
    refine ⟨by omega, by omega, by omega, ?_⟩
    refine set_h 0 H rfl (i := k) (u := .int .i64 (gi l s2)) hk (by simp [e10, e12, rS, rL, hk, hpr]) (by simp) (by simp) ?_
    intro w8 H
    refine ⟨.inl rfl, ?_⟩
    simp [-Int.natCast_add, e0, e1, e10, e11, e12, wk]
    simp only [List.set_cons_zero] at H
    rw [fill_set _ hrlen hk, ← hrl] at H
    exact ⟨by omega, H⟩
  · rintro env w6 ⟨e0, e1, e10, e11, e12, H⟩
    simp [e0, e12, hS, hL]
    refine ite_r (t := false) (by simp; omega) (fun h => by cases h) (fun _ => ?_)
    simp [e10]
    rw [hlN]
    rw [Nat.sub_self, List.replicate_zero, List.append_nil] at H
    unfold OwnRow
    rw [roughL, mapTo_len]
    exact H.drop 1

end Go.Proofs.Ytbncppklmhfnmaa.VG
