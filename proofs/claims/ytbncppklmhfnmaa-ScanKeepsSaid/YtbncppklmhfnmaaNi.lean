/-
  Scan: the document's order.
-/
import Derived.Test.YtbncppklmhfnmaaNh
namespace Go.Proofs.Ytbncppklmhfnmaa.VG
open Go
set_option linter.unusedSimpArgs false
set_option linter.unusedVariables false
set_option maxRecDepth 20000

theorem rowAt_plain (W k : Nat) : rowAt W false k = (k : Int) := by
  have := Nat.div_add_mod k W
  rw [Nat.mul_comm] at this
  simp only [rowAt, Bool.false_eq_true, false_and, if_false]
  rw [this]

set_option maxHeartbeats 8000000 in
theorem scanOrder_c {w : World} (wd h kd : Int) (M : Nat) (hM : M = 4096) : Calls Try.prog 11 [.int .i64 wd, .int .i64 h, .int .i64 kd].toArray w (Ret fun r w' => OwnRow w w' r (orderI wd h kd M)) := by
  refine F_sound c11 (by simp [fc11]) ?_
  simp [fc11, s11]
  refine callp (side2_c wd) (by simp) ?_
  by_cases hwb : 1 ≤ wd ∧ wd ≤ 64
  rotate_left
  · have hw1 : (decide (1 ≤ wd) && decide (wd ≤ 64)) = false := by simp; omega
    have hsz : orderI wd h kd M = [] := by simp [orderI, mayB, hw1]
    rw [hw1, hsz]
    simp
    refine ifg_r (t := true) (by simp) (fun h => by cases h) (fun _ => ?_)
    simp
    refine ite_r (t := true) (by simp) (fun _ => ?_) (fun h => by cases h)
    simp
    exact OwnRow.nil (Mod.refl _ _)
  have hw1 : (decide (1 ≤ wd) && decide (wd ≤ 64)) = true := by simp; omega
  rw [hw1]
  simp
  refine ifg_r (t := false) (by simp) (fun _ => ?_) (fun h => (h rfl).elim)
  refine callp (side2_c h) (by simp) ?_
  by_cases hhb : 1 ≤ h ∧ h ≤ 64
  rotate_left
  · have hh1 : (decide (1 ≤ h) && decide (h ≤ 64)) = false := by simp; omega
    have hsz : orderI wd h kd M = [] := by simp [orderI, mayB, hh1, Bool.and_assoc]
    rw [hh1, hsz]
    simp
    refine ite_r (t := true) (by simp) (fun _ => ?_) (fun h => by cases h)
    simp
    exact OwnRow.nil (Mod.refl _ _)
  have hh1 : (decide (1 ≤ h) && decide (h ≤ 64)) = true := by simp; omega
  have hm := mayB_iff.2 ⟨hwb, hhb⟩
  obtain ⟨W, rfl⟩ : ∃ W : Nat, wd = W := ⟨wd.toNat, by omega⟩
  obtain ⟨H', rfl⟩ : ∃ H' : Nat, h = H' := ⟨h.toNat, by omega⟩
  have hsz : orderI (W : Int) (H' : Int) kd M = ordL W H' M kd := by rw [orderI, if_pos hm]; rfl
  have hpI : passRI (W : Int) (H' : Int) = passR W (W * H') 7 := by rw [passRI, if_pos hm]; rfl
  have hW : 1 ≤ W ∧ W ≤ 64 := by omega
  have hH : 1 ≤ H' ∧ H' ≤ 64 := by omega
  have hWH : W * H' ≤ 64 * 64 := Nat.mul_le_mul hW.2 hH.2
  have eWH : (W : Int) * (H' : Int) = ((W * H' : Nat) : Int) := by rw [Int.natCast_mul]
  rw [hh1, hsz]
  obtain ⟨N, hN⟩ : ∃ N, N = W * H' := ⟨_, rfl⟩
  rw [← hN] at hWH eWH
  have wN : IntKind.i64.wrap (N : Int) = (N : Int) := wI (by omega) (by omega)
  simp
  refine ite_r (t := false) (by simp) (fun h => by cases h) (fun _ => ?_)
  simp [wp_blk]
  have H := (Hp.nil w).nilS (e := 3) (size := 1)
  by_cases h0 : kd = 0
  · subst h0
    refine ite_r (t := true) (by simp) (fun _ => ?_) (fun h => by cases h)
    simp
    have e : ordL W H' M 0 = mapTo (rowAt W false) N := by rw [hN]; rfl
    rw [e]
    refine for_r N (fun k env' w' => env' 0 = .int .i64 W ∧ env' 1 = .int .i64 H' ∧ env' 8 = .int .i64 k ∧ OwnRow w w' (env' 7) (mapTo (rowAt W false) k)) ?_ ?_ ?_
    · simp [mapTo]
      exact H
    · rintro k env w1 hk ⟨e0, e1, e8, H⟩
      have wk : IntKind.i64.wrap ((k : Int) + 1) = ((k + 1 : Nat) : Int) := by rw [wI (by omega) (by omega)]; omega
      have hlen := mapTo_len (rowAt W false) k
      unfold OwnRow at H
      generalize hrv : env 7 = rv at *
      simp [e0, e1, e8, eWH, wN]
      refine ite_r (t := true) (by simp; omega) (fun _ => ?_) (fun h => by cases h)
      simp [wp_blk]
      refine app1_h slTI 0 H rfl (u := .int .i64 (k : Int)) (by simp) (by omega) (by unfold maxLen; omega) (by simp [e8]) (by simp [hrv]) (by simp) (by simp) ?_
      intro vb v' w5 w6 H
      refine ⟨.inl rfl, ?_⟩
      simp [-Int.natCast_add, e0, e1, e8, wk]
      simp only [List.set_cons_zero] at H
      rw [intsV_snoc, ← rowAt_plain W k, ← mapTo_succ] at H
      refine ⟨by omega, ?_⟩
      unfold OwnRow
      rw [mapTo_len] at H ⊢
      exact H
    · rintro env w1 ⟨e0, e1, e8, H⟩
      simp [e0, e1, e8, eWH, wN]
      refine ite_r (t := false) (by simp) (fun h => by cases h) (fun _ => ?_)
      simp
      exact H
  refine ite_r (t := false) (by simp [h0]) (fun h => by cases h) (fun _ => ?_)
  simp
  by_cases h1 : kd = 1
  · subst h1
    refine ite_r (t := true) (by simp) (fun _ => ?_) (fun h => by cases h)
    simp
    have e : ordL W H' M 1 = mapTo (colAt W H') N := by rw [hN]; rfl
    rw [e]
    refine for_r N (fun k env' w' => env' 0 = .int .i64 W ∧ env' 1 = .int .i64 H' ∧ env' 9 = .int .i64 k ∧ OwnRow w w' (env' 7) (mapTo (colAt W H') k)) ?_ ?_ ?_
    · simp [mapTo]
      exact H
    · rintro k env w1 hk ⟨e0, e1, e9, H⟩
      have wk : IntKind.i64.wrap ((k : Int) + 1) = ((k + 1 : Nat) : Int) := by rw [wI (by omega) (by omega)]; omega
      have hlen := mapTo_len (colAt W H') k
      have hm := Nat.mod_lt k hH.1
      have hd : k / H' < W := Nat.div_lt_of_lt_mul (by rw [Nat.mul_comm]; omega)
      have t1 : (k : Int).tmod (H' : Int) = ((k % H' : Nat) : Int) := rfl
      have t2 : (k : Int).tdiv (H' : Int) = ((k / H' : Nat) : Int) := rfl
      have hat : colAt W H' k = ((k % H' * W + k / H' : Nat) : Int) := rfl
      generalize hqx : k % H' = qx at *
      generalize hqy : k / H' = qy at *
      have w2' : IntKind.i64.wrap (qy : Int) = (qy : Int) := wI (by omega) (by omega)
      have hyW : qx * W ≤ 63 * 64 := Nat.mul_le_mul (by omega) (by omega)
      obtain ⟨yW, hyw⟩ : ∃ k, k = qx * W := ⟨_, rfl⟩
      have ey : (qx : Int) * (W : Int) = (yW : Int) := by rw [hyw, Int.natCast_mul]
      have wyW : IntKind.i64.wrap (yW : Int) = (yW : Int) := wI (by omega) (by omega)
      rw [← hyw] at hat
      obtain ⟨z, hz⟩ : ∃ k, k = yW + qy := ⟨_, rfl⟩
      have wv : IntKind.i64.wrap ((yW : Int) + qy) = (z : Int) := by rw [wI (by omega) (by omega)]; omega
      rw [← hz] at hat
      unfold OwnRow at H
      generalize hrv : env 7 = rv at *
      simp [e0, e1, e9, eWH, wN]
      refine ite_r (t := true) (by simp; omega) (fun _ => ?_) (fun h => by cases h)
      replace H := H.drew
      simp [wp_blk, e0, e1, e9, t1, t2, w2', ey, wyW, wv]
      refine ⟨by omega, ?_⟩
      refine app1_h slTI 0 H rfl (u := .int .i64 (z : Int)) (by simp) (by omega) (by unfold maxLen; omega) (by simp [e0, e1, e9, t1, t2, w2', ey, wyW, wv]) (by simp [hrv]) (by simp) (by simp) ?_
      intro vb v' w5 w6 H
      refine ⟨.inl rfl, ?_⟩
      simp [-Int.natCast_add, e0, e1, e9, wk]
      simp only [List.set_cons_zero] at H
      rw [intsV_snoc, ← hat, ← mapTo_succ] at H
      refine ⟨by omega, ?_⟩
      unfold OwnRow
      rw [mapTo_len] at H ⊢
      exact H
    · rintro env w1 ⟨e0, e1, e9, H⟩
      simp [e0, e1, e9, eWH, wN]
      refine ite_r (t := false) (by simp) (fun h => by cases h) (fun _ => ?_)
      simp
      exact H
  refine ite_r (t := false) (by simp [h1]) (fun h => by cases h) (fun _ => ?_)
  simp
  by_cases h2 : kd = 2
  · subst h2
    refine ite_r (t := true) (by simp) (fun _ => ?_) (fun h => by cases h)
    simp
    have e : ordL W H' M 2 = mapTo (rowAt W true) N := by rw [hN]; rfl
    rw [e]
    refine for_r N (fun k env' w' => env' 0 = .int .i64 W ∧ env' 1 = .int .i64 H' ∧ env' 10 = .int .i64 k ∧ OwnRow w w' (env' 7) (mapTo (rowAt W true) k)) ?_ ?_ ?_
    · simp [mapTo]
      exact H
    · rintro k env w1 hk ⟨e0, e1, e10, H⟩
      have wk : IntKind.i64.wrap ((k : Int) + 1) = ((k + 1 : Nat) : Int) := by rw [wI (by omega) (by omega)]; omega
      have hlen := mapTo_len (rowAt W true) k
      have hm := Nat.mod_lt k hW.1
      have hd : k / W < H' := Nat.div_lt_of_lt_mul (by omega)
      have t1 : (k : Int).tmod (W : Int) = ((k % W : Nat) : Int) := rfl
      have t2 : (k : Int).tdiv (W : Int) = ((k / W : Nat) : Int) := rfl
      have hat : rowAt W true k = ((k / W * W + (if k / W % 2 = 1 then W - 1 - k % W else k % W) : Nat) : Int) := by simp [rowAt]
      generalize hqx : k % W = qx at *
      generalize hqy : k / W = qy at *
      have w2' : IntKind.i64.wrap (qy : Int) = (qy : Int) := wI (by omega) (by omega)
      have t3 : (qy : Int).tmod 2 = ((qy % 2 : Nat) : Int) := rfl
      have w1' : IntKind.i64.wrap ((W : Int) - 1) = (W : Int) - 1 := wI (by omega) (by omega)
      have w3' : IntKind.i64.wrap ((W : Int) - 1 - qx) = (W : Int) - 1 - qx := wI (by omega) (by omega)
      have hyW : qy * W ≤ 63 * 64 := Nat.mul_le_mul (by omega) (by omega)
      obtain ⟨yW, hyw⟩ : ∃ k, k = qy * W := ⟨_, rfl⟩
      have ey : (qy : Int) * (W : Int) = (yW : Int) := by rw [hyw, Int.natCast_mul]
      have wyW : IntKind.i64.wrap (yW : Int) = (yW : Int) := wI (by omega) (by omega)
      rw [← hyw] at hat
      unfold OwnRow at H
      generalize hrv : env 7 = rv at *
      simp [e0, e1, e10, eWH, wN]
      refine ite_r (t := true) (by simp; omega) (fun _ => ?_) (fun h => by cases h)
      simp [wp_blk, e0, e1, e10, t1, t2, w2', t3]
      refine ⟨by omega, ?_⟩
      refine ite_cut (fun env' w' => env' 0 = .int .i64 W ∧ env' 1 = .int .i64 H' ∧ env' 7 = rv ∧ env' 10 = .int .i64 k ∧ env' 11 = .int .i64 ((if qy % 2 = 1 then W - 1 - qx else qx : Nat) : Int) ∧ w' = w1) (t := decide (qy % 2 = 1)) ?_ ?_ ?_ ?_
      · simp
        rw [Bool.eq_iff_iff]
        simp
        omega
      · intro ht'
        simp at ht'
        have cst : ((W - 1 - qx : Nat) : Int) = (W : Int) - 1 - qx := by omega
        simp [e0, e1, e10, hrv, w1', w3', ht', cst]
      · intro ht'
        simp at ht'
        have hno : ¬ qy % 2 = 1 := by omega
        rw [if_neg hno]
        simp [e0, e1, e10, hrv]
      rintro env _ ⟨e0, e1, e7, e10, e11, rfl⟩
      have hxb : (if qy % 2 = 1 then W - 1 - qx else qx) ≤ 63 := by split <;> omega
      generalize (if qy % 2 = 1 then W - 1 - qx else qx) = x at *
      obtain ⟨z, hz⟩ : ∃ k, k = yW + x := ⟨_, rfl⟩
      have wv : IntKind.i64.wrap ((yW : Int) + x) = (z : Int) := by rw [wI (by omega) (by omega)]; omega
      rw [← hz] at hat
      simp [e0, e10, e11, t2, w2', ey, wyW, wv]
      refine ⟨by omega, ?_⟩
      refine app1_h slTI 0 H rfl (u := .int .i64 (z : Int)) (by simp) (by omega) (by unfold maxLen; omega) (by simp [e0, e10, e11, t2, w2', ey, wyW, wv]) (by simp [e7]) (by simp) (by simp) ?_
      intro vb v' w5 w6 H
      refine ⟨.inl rfl, ?_⟩
      simp [-Int.natCast_add, e0, e1, e10, wk]
      simp only [List.set_cons_zero] at H
      rw [intsV_snoc, ← hat, ← mapTo_succ] at H
      refine ⟨by omega, ?_⟩
      unfold OwnRow
      rw [mapTo_len] at H ⊢
      exact H
    · rintro env w1 ⟨e0, e1, e10, H⟩
      simp [e0, e1, e10, eWH, wN]
      refine ite_r (t := false) (by simp) (fun h => by cases h) (fun _ => ?_)
      simp
      exact H
  refine ite_r (t := false) (by simp [h2]) (fun h => by cases h) (fun _ => ?_)
  simp
  by_cases h3 : kd = 3
  · subst h3
    refine ite_r (t := true) (by simp) (fun _ => ?_) (fun h => by cases h)
    simp
    have e : ordL W H' M 3 = diagL W H' (W + H' - 1) := rfl
    rw [e]
    have wa : IntKind.i64.wrap ((W : Int) + H') = (W : Int) + H' := wI (by omega) (by omega)
    have wb : IntKind.i64.wrap ((W : Int) + H' - 2) = (W : Int) + H' - 2 := wI (by omega) (by omega)
    generalize hS : W + H' - 1 = S at *
    refine for_r S (fun s env' w' => env' 0 = .int .i64 W ∧ env' 1 = .int .i64 H' ∧ env' 12 = .int .i64 s ∧ OwnRow w w' (env' 7) (diagL W H' s)) ?_ ?_ ?_
    · simp [diagL]
      exact H
    · rintro s env w3 hs ⟨e0, e1, e12, H⟩
      have ws : IntKind.i64.wrap ((s : Int) + 1) = ((s + 1 : Nat) : Int) := by rw [wI (by omega) (by omega)]; omega
      have hlL := diagL_len W H' s
      have hsW : s * W ≤ 127 * 64 := Nat.mul_le_mul (by omega) (by omega)
      simp [e0, e1, e12, wa, wb]
      refine ite_r (t := true) (by simp; omega) (fun _ => ?_) (fun h => by cases h)
      simp [wp_blk]
      refine for_r W (fun x env' w' => env' 0 = .int .i64 W ∧ env' 1 = .int .i64 H' ∧ env' 12 = .int .i64 s ∧ env' 13 = .int .i64 x ∧ OwnRow w w' (env' 7) (diagL W H' s ++ diagS W H' s x)) ?_ ?_ ?_
      · simp [e0, e1, e12, diagS]
        exact H
      · rintro x env w4 hx ⟨e0, e1, e12, e13, H⟩
        have wi : IntKind.i64.wrap ((x : Int) + 1) = ((x + 1 : Nat) : Int) := by rw [wI (by omega) (by omega)]; omega
        have wy : IntKind.i64.wrap ((s : Int) - x) = (s : Int) - x := wI (by omega) (by omega)
        have hlS := diagS_len W H' s x
        generalize hrv : env 7 = rv at *
        simp [e0, e13]
        refine ite_r (t := true) (by simp; omega) (fun _ => ?_) (fun h => by cases h)
        simp [wp_blk, e1, e12, e13, wy]
        by_cases hy : x ≤ s ∧ s - x < H'
        · have hd : diagS W H' s (x + 1) = diagS W H' s x ++ [(((s - x) * W + x : Nat) : Int)] := by rw [diagS, if_pos hy]
          have hyW : (s - x) * W ≤ 63 * 64 := Nat.mul_le_mul (by omega) (by omega)
          have ey : ((s : Int) - x) * (W : Int) = (((s - x) * W : Nat) : Int) := by rw [Int.natCast_mul]; congr 1; omega
          have wyW : IntKind.i64.wrap (((s - x) * W : Nat) : Int) = (((s - x) * W : Nat) : Int) := wI (by omega) (by omega)
          have wv : IntKind.i64.wrap ((((s - x) * W : Nat) : Int) + x) = (((s - x) * W + x : Nat) : Int) := by rw [wI (by omega) (by omega)]; omega
          refine ite_r (t := true) (by simp; omega) (fun _ => ?_) (fun h => by cases h)
          unfold OwnRow at H
          simp [-Int.natCast_add, -Int.natCast_mul, e0, e12, e13, wy, ey, wyW, wv]
          refine app1_h slTI 0 H rfl (u := .int .i64 (((s - x) * W + x : Nat) : Int)) (by simp) (by simp; omega) (by unfold maxLen; simp; omega) (by simp [-Int.natCast_add, -Int.natCast_mul, e0, e12, e13, wy, ey, wyW, wv]) (by simp [hrv]) (by simp) (by simp) ?_
          intro vb v' w5 w6 H
          refine ⟨.inl rfl, ?_⟩
          simp [-Int.natCast_add, -Int.natCast_mul, wi, e0, e1, e12, e13]
          simp only [List.set_cons_zero] at H
          rw [intsV_snoc, List.append_assoc, ← hd] at H
          refine ⟨by omega, ?_⟩
          unfold OwnRow
          rw [hd]
          rw [hd] at H
          simpa [Nat.add_assoc] using H
        · have hd : diagS W H' s (x + 1) = diagS W H' s x := by rw [diagS, if_neg hy, List.append_nil]
          refine ite_r (t := false) (by simp; omega) (fun h => by cases h) (fun _ => ?_)
          simp [-Int.natCast_add, wi, e0, e1, e12, e13, hrv, hd]
          exact ⟨by omega, H⟩
      · rintro env w4 ⟨e0, e1, e12, e13, H⟩
        simp [e0, e13]
        refine ite_r (t := false) (by simp) (fun h => by cases h) (fun _ => ?_)
        simp [e0, e1, e12, ws, -Int.natCast_add]
        exact ⟨by omega, H⟩
    · rintro env w3 ⟨e0, e1, e12, H⟩
      simp [e0, e1, e12, wa, wb]
      refine ite_r (t := false) (by simp; omega) (fun h => by cases h) (fun _ => ?_)
      simp
      exact H
  refine ite_r (t := false) (by simp [h3]) (fun h => by cases h) (fun _ => ?_)
  simp
  by_cases h4 : kd = 4
  · subst h4
    refine ite_r (t := true) (by simp) (fun _ => ?_) (fun h => by cases h)
    refine call_h (byTurns_c hW hH M hM) (by simp) ?_
    intro r w1 h
    simp
    exact h
  refine ite_r (t := false) (by simp [h4]) (fun h => by cases h) (fun _ => ?_)
  simp
  by_cases h5 : kd = 5
  rotate_left
  · refine ite_r (t := false) (by simp [h5]) (fun h => by cases h) (fun _ => ?_)
    simp
    have : ordL W H' M kd = [] := by simp [ordL, h0, h1, h2, h3, h4, h5]
    rw [this]
    exact H
  subst h5
  refine ite_r (t := true) (by simp) (fun _ => ?_) (fun h => by cases h)
  simp
  have e5 : ordL W H' M 5 = passTo W N 7 := by rw [hN]; rfl
  rw [e5]
  refine call_h (scanPasses_c (W : Int) (H' : Int)) (by simp) ?_
  intro ov w1 hO
  rw [hpI, ← hN] at hO
  have hmod := hO.mod
  obtain ⟨vs, hvs, r0, r1⟩ := hO.rd.ex
  rw [passR_len] at hvs r0
  obtain ⟨rS, rL⟩ := r0.sl
  simp [rS, rL]
  have H := (Hp.nil w1).nilS (e := 3) (size := 1)
  refine for_r 7 (fun i env' w' => env' 135 = ov ∧ env' 136 = .int .i64 7 ∧ env' 137 = .int .i64 i ∧ OwnRow w1 w' (env' 7) (passTo W N i)) ?_ ?_ ?_
  · simp
    exact H
  · rintro i env w2 hi ⟨e44, e45, e46, H⟩
    have wi : IntKind.i64.wrap ((i : Int) + 1) = ((i + 1 : Nat) : Int) := by rw [wI (by omega) (by omega)]; omega
    obtain ⟨a, ea⟩ : ∃ a, vs[i]? = some a := ⟨vs[i], List.getElem?_eq_getElem (by omega)⟩
    have ca := (r0.at H.mod).cell i a ea
    obtain ⟨pa, _⟩ := r0.ptr (by omega)
    have ra := (r1 i a _ ea (passR_get W N 7 i hi)).at H.mod
    have l1 := passTo_len W N i
    have l2 := passL_len i W N
    have l3 : i * N ≤ 6 * 4096 := Nat.mul_le_mul (by omega) hWH
    generalize hrv : env 7 = rv at *
    simp [e45, e46]
    refine ite_r (t := true) (by simp; omega) (fun _ => ?_) (fun h => by cases h)
    simp [wp_blk, e44, e46, rS, rL, hi, pa, ca]
    refine ⟨by omega, ?_⟩
    refine app_h slTI 0 H rfl ra (by simp [intsV]) (intsV_one _) (by omega) (by unfold maxLen; omega) (by simp [hrv]) (by simp) ?_
    intro v' w3 H
    refine ⟨.inl rfl, ?_⟩
    simp [-Int.natCast_add, e44, e45, e46, wi]
    simp only [List.set_cons_zero] at H
    rw [intsV_app] at H
    refine ⟨by omega, ?_⟩
    unfold OwnRow
    rw [passTo, List.length_append]
    exact H
  · rintro env w2 ⟨e44, e45, e46, H⟩
    simp [e45, e46]
    refine ite_r (t := false) (by simp) (fun h => by cases h) (fun _ => ?_)
    simp
    exact (Hp.ofMod hmod).join H

end Go.Proofs.Ytbncppklmhfnmaa.VG
