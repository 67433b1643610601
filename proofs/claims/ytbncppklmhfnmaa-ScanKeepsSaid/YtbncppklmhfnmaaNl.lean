/-
  Scan: what the first passes show.
-/
import Derived.Test.YtbncppklmhfnmaaNk
namespace Go.Proofs.Ytbncppklmhfnmaa.VG
open Go
set_option linter.unusedSimpArgs false
set_option linter.unusedVariables false
set_option maxRecDepth 20000

def stX (n : Nat) : Nat := [1, 8, 4, 4, 2, 2, 1, 1].getD n 1
def stY (n : Nat) : Nat := [1, 8, 8, 4, 4, 2, 2, 1].getD n 1
def tabR : Array Value := #[.int .i64 8, .int .i64 8, .int .i64 4, .int .i64 8, .int .i64 4, .int .i64 4, .int .i64 2, .int .i64 4, .int .i64 2, .int .i64 2, .int .i64 1, .int .i64 2, .int .i64 1, .int .i64 1]
def stV (n : Nat) : Array Value := #[.int .i64 (stX n), .int .i64 (stY n)]
def roughAt (l : List Int) (W a c : Nat) (k : Nat) : Int := gi l ((k / W - k / W % c) * W + k % W - k % W % a)
def roughL (l : List Int) (W a c : Nat) (k : Nat) : List Int := mapTo (roughAt l W a c) k
def roughI (l : List Int) (wd h p : Int) : List Int :=
  if mayB wd h = true ∧ (l.length : Int) = wd * h then (if p ≤ 0 then List.replicate l.length 0 else roughL l wd.toNat (stX (min p 7).toNat) (stY (min p 7).toNat) l.length) else []

set_option maxHeartbeats 4000000 in
theorem rough_c {G : Nat → Prop} {w : World} {v : Value} {l : List Int} (hr : Rd G w v l.length (intsV l)) (hl : l.length ≤ 1000000) (wd h p : Int) :
    Calls Try.prog 22 [v, .int .i64 wd, .int .i64 h, .int .i64 p].toArray w (Ret fun r w' => OwnRow w w' r (roughI l wd h p)) := by
  refine F_sound c22 (by simp [fc22]) ?_
  obtain ⟨hS, hL⟩ := hr.sl
  simp [fc22, s22, hS, hL]
  refine callp (may_c wd h) (by simp) ?_
  by_cases hm : mayB wd h = true
  rotate_left
  · have hsz : roughI l wd h p = [] := by rw [roughI, if_neg (fun hh => hm hh.1)]
    rw [hsz]
    simp [hm]
    refine ite_r (t := true) (by simp) (fun _ => ?_) (fun h => by cases h)
    simp
    exact OwnRow.nil (Mod.refl _ _)
  obtain ⟨hwb, hhb⟩ := mayB_iff.1 hm
  obtain ⟨W, rfl⟩ : ∃ W : Nat, wd = W := ⟨wd.toNat, by omega⟩
  obtain ⟨H', rfl⟩ : ∃ H' : Nat, h = H' := ⟨h.toNat, by omega⟩
  have hW : 1 ≤ W ∧ W ≤ 64 := by omega
  have hH : 1 ≤ H' ∧ H' ≤ 64 := by omega
  have hWH : W * H' ≤ 64 * 64 := Nat.mul_le_mul hW.2 hH.2
  have eWH : (W : Int) * (H' : Int) = ((W * H' : Nat) : Int) := by rw [Int.natCast_mul]
  obtain ⟨N, hN⟩ : ∃ N, N = W * H' := ⟨_, rfl⟩
  have hsz : roughI l W H' p = if l.length = N then (if p ≤ 0 then List.replicate l.length 0 else roughL l W (stX (min p 7).toNat) (stY (min p 7).toNat) l.length) else [] := by
    unfold roughI
    have e : (mayB (W : Int) (H' : Int) = true ∧ (l.length : Int) = (W : Int) * (H' : Int)) ↔ l.length = N := by
      rw [eWH, ← hN]
      constructor
      · intro h; omega
      · intro h; exact ⟨hm, by omega⟩
    by_cases hh : l.length = N
    · rw [if_pos hh, if_pos (e.2 hh), Int.toNat_natCast]
    · rw [if_neg hh, if_neg (fun h => hh (e.1 h))]
  rw [← hN] at hWH eWH
  have wN : IntKind.i64.wrap (N : Int) = (N : Int) := wI (by omega) (by omega)
  rw [hsz]
  simp [hm, hS, hL, eWH, wN]
  by_cases hlN : l.length = N
  rotate_left
  · rw [if_neg hlN]
    refine ite_r (t := true) (by simp; omega) (fun _ => ?_) (fun h => by cases h)
    simp
    exact OwnRow.nil (Mod.refl _ _)
  rw [if_pos hlN]
  refine ite_r (t := false) (by simp [hlN]) (fun h => by cases h) (fun _ => ?_)
  simp [hS, hL]
  refine mkN_h slTI (kl := .i64) (kc := .i64) (n := N) (xs := intsV (List.replicate N 0)) (Hp.nil w) (by simp [hS, hL, hlN]) (by simp [hS, hL, hlN]) (by omega) (by unfold maxLen; omega) (fun z hz => by rw [zero64 hz, intsV_zeros]) ?_
  intro rv w1 H M1
  refine ⟨.inl rfl, ?_⟩
  obtain ⟨rS, rL⟩ := (H.rd 0 rfl).sl
  simp
  by_cases hp : p ≤ 0
  · rw [if_pos hp]
    refine ite_r (t := true) (by simp [hp]) (fun _ => ?_) (fun h => by cases h)
    simp
    unfold OwnRow
    simp [hlN]
    exact H
  rw [if_neg hp]
  refine ite_r (t := false) (by simp [hp]) (fun h => by cases h) (fun _ => ?_)
  simp [putAt, Value.cells]
  obtain ⟨i14, hi14, z14, hz14, hs14⟩ : ∃ i, Try.prog.info? 57 = some i ∧ ∃ z, i.zero = some z ∧ z.cells.size = 14 := ⟨_, rfl, _, rfl, by decide⟩
  obtain ⟨i2, hi2, hz2⟩ : ∃ i, Try.prog.info? 56 = some i ∧ i.zero = some (.agg #[.int .i64 0, .int .i64 0]) := ⟨_, rfl, rfl⟩
  refine alloc_h H hi14 hz14 ?_
  intro b w2 H M2
  refine ⟨.inl rfl, ?_⟩
  refine stAll_h 1 H rfl (v := .agg tabR) rfl (by kernel_rfl) rfl hs14 (by simp [Value.cells, tabR]) ?_
  intro w3 H
  refine ⟨.inl rfl, ?_⟩
  simp
  obtain ⟨n, hn⟩ : ∃ n : Nat, (min p 7).toNat = n := ⟨_, rfl⟩
  have hn17 : 1 ≤ n ∧ n ≤ 7 := by omega
  obtain ⟨q, hq⟩ : ∃ q : Nat, n = q + 1 := ⟨n - 1, by omega⟩
  have wq : IntKind.i64.wrap ((if 7 < p then 7 else p) - 1) = (q : Int) := by
    by_cases h7 : 7 < p
    · rw [if_pos h7, wI (by omega) (by omega)]; omega
    · rw [if_neg h7, wI (by omega) (by omega)]; omega
  have hc0 : tabR[q * 2]? = some (.int .i64 (stX n)) := by
    obtain rfl | rfl | rfl | rfl | rfl | rfl | rfl : q = 0 ∨ q = 1 ∨ q = 2 ∨ q = 3 ∨ q = 4 ∨ q = 5 ∨ q = 6 := by omega
    all_goals (subst hq; rfl)
  have hc1 : tabR[q * 2 + 1]? = some (.int .i64 (stY n)) := by
    obtain rfl | rfl | rfl | rfl | rfl | rfl | rfl : q = 0 ∨ q = 1 ∨ q = 2 ∨ q = 3 ∨ q = 4 ∨ q = 5 ∨ q = 6 := by omega
    all_goals (subst hq; rfl)
  have hpos : 0 < stX n ∧ 0 < stY n := by
    obtain rfl | rfl | rfl | rfl | rfl | rfl | rfl : q = 0 ∨ q = 1 ∨ q = 2 ∨ q = 3 ∨ q = 4 ∨ q = 5 ∨ q = 6 := by omega
    all_goals (subst hq; decide)
  have d0 : w3.cell? ⟨b, q * 2, none⟩ = some (.int .i64 (stX n)) := by rw [H.blk 1 rfl]; exact hc0
  have d1 : w3.cell? ⟨b, q * 2 + 1, none⟩ = some (.int .i64 (stY n)) := by rw [H.blk 1 rfl]; exact hc1
  rw [hn]
  simp only [wq, Int.toNat_natCast]
  refine ⟨by omega, ?_, ?_⟩
  · intro j hj
    obtain rfl | rfl : j = 0 ∨ j = 1 := by omega
    · rw [Nat.add_zero, d0]; rfl
    · rw [d1]; rfl
  replace H : Hp w w3 [.own 3 1 rv N (intsV (List.replicate N 0))] := H.drop 1
  refine alloc_h H hi2 hz2 ?_
  intro b2 w4 H M4
  refine ⟨.inl rfl, ?_⟩
  refine stAll_h 1 H rfl (v := .agg (stV n)) rfl (by simp [cellsFrom, d0, d1, stV]) rfl rfl (by simp [Value.cells, stV]) ?_
  intro w5 H
  refine ⟨.inl rfl, ?_⟩
  replace H : Hp w w5 [.own 3 1 rv N (intsV (List.replicate N 0)), .blk b2 (stV n)] := H
  simp
  generalize hsx : stX n = a at *
  generalize hsy : stY n = c at *
  have hst : stV n = #[.int .i64 a, .int .i64 c] := by rw [stV, hsx, hsy]
  rw [hst] at H
  refine for_r H' (fun y env' w' => env' 0 = v ∧ env' 1 = .int .i64 W ∧ env' 9 = rv ∧ env' 11 = .pointer (some ⟨b2, 0, none⟩) ∧ env' 45 = .int .i64 H' ∧ env' 46 = .int .i64 y ∧
    Hp w w' [.own 3 1 rv N (intsV (roughL l W a c (y * W) ++ List.replicate (N - y * W) 0)), .blk b2 #[.int .i64 a, .int .i64 c]]) ?_ ?_ ?_
  · simp [roughL, mapTo]
    exact H
  · rintro y env w6 hy ⟨e0, e1, e9, e11, e45, e46, H⟩
    have wy : IntKind.i64.wrap ((y : Int) + 1) = ((y + 1 : Nat) : Int) := by rw [wI (by omega) (by omega)]; omega
    simp [e45, e46]
    refine ite_r (t := true) (by simp; omega) (fun _ => ?_) (fun h => by cases h)
    simp [wp_blk, e1]
    have hyN : (y + 1) * W ≤ H' * W := Nat.mul_le_mul_right _ hy
    rw [Nat.succ_mul, Nat.mul_comm H' W, ← hN] at hyN
    refine for_r W (fun x env' w' => env' 0 = v ∧ env' 1 = .int .i64 W ∧ env' 9 = rv ∧ env' 11 = .pointer (some ⟨b2, 0, none⟩) ∧ env' 12 = .int .i64 y ∧ env' 45 = .int .i64 H' ∧ env' 46 = .int .i64 y ∧ env' 49 = .int .i64 W ∧ env' 50 = .int .i64 x ∧
      Hp w w' [.own 3 1 rv N (intsV (roughL l W a c (y * W + x) ++ List.replicate (N - (y * W + x)) 0)), .blk b2 #[.int .i64 a, .int .i64 c]]) ?_ ?_ ?_
    · simp [e0, e1, e9, e11, e45, e46]
      exact H
    · rintro x env w7 hx ⟨e0, e1, e9, e11, e12, e45, e46, e49, e50, H⟩
      have wx : IntKind.i64.wrap ((x : Int) + 1) = ((x + 1 : Nat) : Int) := by rw [wI (by omega) (by omega)]; omega
      replace H := H.drew
      obtain ⟨_, _, c0, c1⟩ := blk2 (H.blk 1 rfl)
      simp only [cell_drew] at c0 c1
      have t1 : (y : Int).tmod (c : Int) = ((y % c : Nat) : Int) := rfl
      have t2 : (x : Int).tmod (a : Int) = ((x % a : Nat) : Int) := rfl
      have hm1 := Nat.mod_le y c
      have hm2 := Nat.mod_le x a
      obtain ⟨p1, p2⟩ := place (y := y) hx
      have hat : roughAt l W a c (y * W + x) = gi l ((y - y % c) * W + x - x % a) := by rw [roughAt, p1, p2]
      have hrl : roughL l W a c (y * W + x + 1) = roughL l W a c (y * W + x) ++ [roughAt l W a c (y * W + x)] := mapTo_succ _ _
      have hrlen : (roughL l W a c (y * W + x)).length = y * W + x := mapTo_len _ _
      rw [hat] at hrl
      generalize hry : y % c = ry at *
      generalize hrx : x % a = rx at *
      have hle : (y - ry) * W ≤ y * W := Nat.mul_le_mul_right _ (by omega)
      have hyW : y * W ≤ 63 * 64 := Nat.mul_le_mul (by omega) (by omega)
      obtain ⟨yW, hyw⟩ : ∃ k, k = y * W := ⟨_, rfl⟩
      have ey : (y : Int) * (W : Int) = (yW : Int) := by rw [hyw, Int.natCast_mul]
      have wyW : IntKind.i64.wrap (yW : Int) = (yW : Int) := wI (by omega) (by omega)
      obtain ⟨z, hz⟩ : ∃ k, k = yW + x := ⟨_, rfl⟩
      have wz : IntKind.i64.wrap ((yW : Int) + x) = (z : Int) := by rw [wI (by omega) (by omega)]; omega
      have wyr : IntKind.i64.wrap ((y : Int) - ry) = ((y - ry : Nat) : Int) := by rw [wI (by omega) (by omega)]; omega
      obtain ⟨y2, hy2⟩ : ∃ k, k = y - ry := ⟨_, rfl⟩
      rw [← hy2] at hle wyr hrl
      obtain ⟨sW, hsw⟩ : ∃ k, k = y2 * W := ⟨_, rfl⟩
      have es : (y2 : Int) * (W : Int) = (sW : Int) := by rw [hsw, Int.natCast_mul]
      rw [← hsw] at hle hrl
      rw [← hyw] at hrl hrlen H hle hyN hyW
      rw [← hz] at hrl hrlen H
      have wsW : IntKind.i64.wrap (sW : Int) = (sW : Int) := wI (by omega) (by omega)
      obtain ⟨s1, hs1⟩ : ∃ k, k = sW + x := ⟨_, rfl⟩
      have ws1 : IntKind.i64.wrap ((sW : Int) + x) = (s1 : Int) := by rw [wI (by omega) (by omega)]; omega
      obtain ⟨s2, hs2⟩ : ∃ k, k = sW + x - rx := ⟨_, rfl⟩
      have ws2 : IntKind.i64.wrap ((s1 : Int) - rx) = (s2 : Int) := by rw [wI (by omega) (by omega)]; omega
      rw [← hs2] at hrl
      have hzN : z < N := by omega
      have hs2N : s2 < l.length := by omega
      have lc := (hr.at H.mod).gi s2 hs2N
      have lp := hr.some (by omega)
      simp only [cell_drew] at lc
      have hpr := (H.rd 0 rfl).some (by simp [hrlen]; omega)
      simp [e49, e50]
      refine ite_r (t := true) (by simp; omega) (fun _ => ?_) (fun h => by cases h)
      simp [wp_blk, e0, e1, e9, e11, e12, e50, ey, wyW, wz, c0, c1, t1, t2, wyr, es, wsW, ws1, ws2, hS, hL, lp, lc, hs2N, rS, rL, hzN, hpr]
      refine ⟨by omega, by omega, ?_⟩
      refine set_h 0 H rfl (i := z) (u := .int .i64 (gi l s2)) hzN (by simp [e1, e9, e12, e50, ey, wyW, wz, rS, rL, hzN, hpr]) (by simp [e0, e1, e12, e50, ey, wyW, wz, c0, c1, t1, t2, wyr, es, wsW, ws1, ws2, hS, hL, lp, lc, hs2N]) (by simp) ?_
      intro w8 H
      refine ⟨.inl rfl, ?_⟩
      simp [-Int.natCast_add, e0, e1, e9, e11, e12, e45, e46, e49, e50, wx]
      simp only [List.set_cons_zero] at H
      rw [fill_set _ hrlen hzN, ← hrl] at H
      rw [← hyw, ← Nat.add_assoc, ← hz]
      exact ⟨by omega, H⟩
    · rintro env w7 ⟨e0, e1, e9, e11, e12, e45, e46, e49, e50, H⟩
      simp [e49, e50]
      refine ite_r (t := false) (by simp) (fun h => by cases h) (fun _ => ?_)
      simp [e0, e1, e9, e11, e45, e46, wy, -Int.natCast_add]
      rw [Nat.succ_mul]
      exact ⟨by omega, H⟩
  · rintro env w6 ⟨e0, e1, e9, e11, e45, e46, H⟩
    simp [e45, e46]
    refine ite_r (t := false) (by simp) (fun h => by cases h) (fun _ => ?_)
    simp [e9]
    rw [hlN]
    rw [Nat.mul_comm, ← hN, Nat.sub_self, List.replicate_zero, List.append_nil] at H
    unfold OwnRow
    rw [roughL, mapTo_len]
    exact H.drop 1

end Go.Proofs.Ytbncppklmhfnmaa.VG
