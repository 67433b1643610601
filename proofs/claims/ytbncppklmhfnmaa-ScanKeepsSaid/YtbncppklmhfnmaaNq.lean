/-
  Scan: what is laid is taken as it was.
-/
import Derived.Test.YtbncppklmhfnmaaNp
namespace Go.Proofs.Ytbncppklmhfnmaa.VG
open Go
set_option linter.unusedSimpArgs false
set_option linter.unusedVariables false
set_option maxRecDepth 20000

theorem gi_mapTo (f : Nat → Int) (n i : Nat) (h : i < n) : gi (mapTo f n) i = f i := by simp [gi, mapTo, h]
theorem nodup_gi {o : List Int} (h : o.Nodup) {i j : Nat} (hi : i < o.length) (hj : j < o.length) (e : gi o i = gi o j) : i = j := by
  rw [gi_get o i hi, gi_get o j hj] at e
  exact (List.getElem_inj h).1 e
theorem layTo_gi {o x : List Int} {n : Nat} (h : okP o n) : ∀ k, k ≤ n → ∀ j, j < k → gi (layTo x o n k) (gi o j).toNat = gi x j
  | 0, _, j, hj => by omega
  | k + 1, hk, j, hj => by
    obtain ⟨a, ha, han⟩ := ok_gi h j (by rw [h.1]; omega)
    obtain ⟨b, hb, hbn⟩ := ok_gi h k (by rw [h.1]; omega)
    rw [layTo, ha, hb, Int.toNat_natCast, Int.toNat_natCast, gi_set _ _ _ _ (by rw [layTo_len]; exact hbn)]
    by_cases e : a = b
    · rw [if_pos e]
      have : j = k := nodup_gi h.2.1 (by rw [h.1]; omega) (by rw [h.1]; omega) (by rw [ha, hb, e])
      rw [this]
    · rw [if_neg e]
      have hjk : j < k := by
        rcases Nat.lt_or_ge j k with h' | h'
        · exact h'
        · exfalso
          have : j = k := by omega
          subst this
          rw [ha] at hb
          omega
      have := layTo_gi (x := x) h k (by omega) j hjk
      rw [ha, Int.toNat_natCast] at this
      exact this
theorem lay_take {l o : List Int} (h : okP o l.length) : layTo (takeL l o o.length) o l.length l.length = l := by
  apply gi_ext (layTo_len _ _ _ _)
  intro i hi
  rw [layTo_len] at hi
  have hs := h.surj (a := (i : Int)) (by omega) (by omega)
  obtain ⟨j, hj, e⟩ := List.getElem_of_mem hs
  have e' : gi o j = (i : Int) := by rw [gi_get o j hj, e]
  have hg := layTo_gi (x := takeL l o o.length) h l.length (Nat.le_refl _) j (by rw [← h.1]; exact hj)
  rw [e', Int.toNat_natCast] at hg
  rw [hg, takeL, gi_mapTo _ _ _ hj, e', Int.toNat_natCast]
theorem takeR_ok {l o : List Int} (h : okP o l.length) : takeR l o = (takeL l o o.length, true) := by simp [takeR, okB_iff.2 h]
theorem layR_ok {l o : List Int} (h : okP o l.length) : layR (takeL l o o.length) o = (l, true) := by
  have hlen : (takeL l o o.length).length = l.length := by rw [takeL, mapTo_len, h.1]
  unfold layR
  rw [hlen, if_pos (okB_iff.2 h)]
  have := lay_take h
  rw [h.1] at this ⊢
  rw [this]
theorem ordL_ok {W H M : Nat} (hW : 1 ≤ W ∧ W ≤ 64) (hH : H ≤ 64) (hM : M = 4096) (k : Nat) (hk : k < 6) : okP (ordL W H M k) (W * H) := by
  subst hM
  obtain rfl | rfl | rfl | rfl | rfl | rfl : k = 0 ∨ k = 1 ∨ k = 2 ∨ k = 3 ∨ k = 4 ∨ k = 5 := by omega
  · exact rows_ok hW.1 false
  · exact cols_ok hW.1
  · exact rows_ok hW.1 true
  · exact diags_ok hW.1
  · exact digs_ok hW hH
  · exact passes_ok

set_option maxHeartbeats 8000000 in
theorem sback_law {w : World} {tv : Value} {t : List Int} (wd h : Int) (ht : Rd (fun k => k < w.heap.size) w tv t.length (intsV t)) (hm : t.length ≤ maxLen) :
    Calls Try.prog 5 [tv, .int .i64 wd, .int .i64 h].toArray w (Ret fun r w' => r = .bool true ∧ Mod none' w w') := by
  refine F_sound c5 (by simp [fc5]) ?_
  obtain ⟨M, hM⟩ : ∃ M : Nat, M = 4096 := ⟨_, rfl⟩
  simp [fc5, s5]
  refine callp (within_c wd 1 40 (by omega) (by omega) (by omega)) (by simp) ?_
  refine callp (within_c h 1 40 (by omega) (by omega) (by omega)) (by simp) ?_
  have ba := with_bd (n := wd) (lo := 1) (hi := 40) (by omega)
  have bb := with_bd (n := h) (lo := 1) (hi := 40) (by omega)
  obtain ⟨W, hW⟩ : ∃ W : Nat, withI wd 1 40 = W := ⟨(withI wd 1 40).toNat, by omega⟩
  obtain ⟨H', hH'⟩ : ∃ H' : Nat, withI h 1 40 = H' := ⟨(withI h 1 40).toNat, by omega⟩
  rw [hW] at ba ⊢
  rw [hH'] at bb ⊢
  simp
  refine call_h (tnew_c t.length ht.cells1) (by simp) ?_
  rintro r w1 ⟨b, rfl, H⟩
  simp
  obtain ⟨hT, hlow, upR, up⟩ := H.tp 0 rfl
  have hg : ¬ (b < w.heap.size) := by omega
  refine call_h (plane_c hT (ht.at H.mod) hg hm (fun k hk => by have := H.mod.size; omega) W H' 12 (by omega) (by omega) (by omega) (by decide)) (by simp) ?_
  rintro lv w2 ⟨l, hpl, A, hs⟩
  replace H := upR _ _ A hs
  replace H : Hp w w2 [.own 3 1 lv (W * H') (intsV l)] := H.drop 0
  have hln := hpl.1
  have hWH : W * H' ≤ 40 * 40 := Nat.mul_le_mul (by omega) (by omega)
  have eWH : (W : Int) * (H' : Int) = ((W * H' : Nat) : Int) := by rw [Int.natCast_mul]
  obtain ⟨N, hN⟩ : ∃ N, N = W * H' := ⟨_, rfl⟩
  rw [← hN] at hWH eWH H hln
  have wN : IntKind.i64.wrap (N : Int) = (N : Int) := wI (by omega) (by omega)
  have hma : mayB W H' = true := mayB_iff.2 ⟨by omega, by omega⟩
  have hoI : ∀ k, orderI W H' k M = ordL W H' M k := fun k => by rw [orderI, if_pos hma]; rfl
  have hpI : passRI (W : Int) (H' : Int) = passR W (W * H') 7 := by rw [passRI, if_pos hma]; rfl
  simp
  refine for_r 6 (fun k env' w' => env' 7 = .int .i64 W ∧ env' 8 = .int .i64 H' ∧ env' 9 = lv ∧ env' 10 = .int .i64 k ∧ Hp w w' [.own 3 1 lv N (intsV l)]) ?_ ?_ ?_
  · simp
    exact H
  · rintro k env w3 hk ⟨e7, e8, e9, e10, H⟩
    have wk : IntKind.i64.wrap ((k : Int) + 1) = ((k + 1 : Nat) : Int) := by rw [wI (by omega) (by omega)]; omega
    have hok := ordL_ok (W := W) (H := H') (M := M) (by omega) (by omega) hM k hk
    rw [← hN, ← hln] at hok
    have hlR : Rd (fun k => w.heap.size ≤ k) w3 lv l.length (intsV l) := by have := H.rd 0 rfl; rwa [← hln] at this
    simp [e10]
    refine ite_r (t := true) (by simp; omega) (fun _ => ?_) (fun h => by cases h)
    simp [wp_blk]
    refine call_h (order_c W H' k M hM) (by simp [e7, e8, e10]) ?_
    rw [hoI]
    generalize ordL W H' M k = o at *
    have hol := hok.1
    intro ov w4 hO
    replace H := H.join hO
    replace H : Hp w w4 [.own 3 1 lv N (intsV l), .own 3 1 ov o.length (intsV o)] := H
    have hlR4 := hlR.at hO.mod
    simp
    refine call_h (take_c hlR4 (H.rd 1 rfl) (by omega) (by omega)) (by simp [e9]) ?_
    rw [takeR_ok hok]
    rintro r w5 ⟨xv, rfl, HX⟩
    have hlR5 := hlR4.at HX.mod
    replace H := H.join HX
    replace H : Hp w w5 [.own 3 1 lv N (intsV l), .own 3 1 ov o.length (intsV o), .own 3 1 xv (takeL l o o.length).length (intsV (takeL l o o.length))] := H
    have hxl : (takeL l o o.length).length = o.length := mapTo_len _ _
    simp
    refine call_h (lay_c (H.rd 2 rfl) (H.rd 1 rfl) (by omega) (by omega)) (by simp) ?_
    rw [layR_ok hok]
    rintro r w6 ⟨yv, rfl, HY⟩
    have hlR6 := hlR5.at HY.mod
    replace H := H.join HY
    replace H : Hp w w6 [.own 3 1 lv N (intsV l), .own 3 1 ov o.length (intsV o), .own 3 1 xv (takeL l o o.length).length (intsV (takeL l o o.length)), .own 3 1 yv l.length (intsV l)] := H
    obtain ⟨oS, oL⟩ := (H.rd 1 rfl).sl
    simp
    refine ifg_r (t := false) (by simp) (fun _ => ?_) (fun h => (h rfl).elim)
    refine callm (ints_c (H.rd 3 rfl) hlR6 (by unfold maxLen; omega)) (by simp (disch := omega) [wI, wU, tmod_nn, tdiv_nn, env0_0, env0_1, env0_2, env0_3, env0_4, env0_5, -env0_apply, e9]) ?_
    intro w' M'
    replace H := H.same M'
    simp [e7, e8, oS, oL, eWH, wN]
    refine ite_r (t := false) (by simp; omega) (fun h => by cases h) (fun _ => ?_)
    simp [-Int.natCast_add, e7, e8, e9, e10, wk]
    exact ⟨by omega, ((H.drop 3).drop 2).drop 1⟩
  · rintro env w3 ⟨e7, e8, e9, e10, H⟩
    simp [e10]
    refine ite_r (t := false) (by simp) (fun h => by cases h) (fun _ => ?_)
    simp
    refine call_h (passes_c W H') (by simp [e7, e8]) ?_
    rw [hpI, ← hN]
    intro pv w4 hO
    have M4 := H.mod.tr hO.mod
    obtain ⟨vs, hvs, r0, r1⟩ := hO.rd.ex
    rw [passR_len] at hvs r0
    obtain ⟨pS, pL⟩ := r0.sl
    simp
    refine for_r 7 (fun i env' w' => env' 7 = .int .i64 W ∧ env' 8 = .int .i64 H' ∧ env' 17 = pv ∧ env' 18 = .int .i64 i ∧ env' 16 = .int .i64 (passTo W N i).length ∧ w' = w4) ?_ ?_ ?_
    · simp [e7, e8, passTo]
    · rintro i env _ hi ⟨e7, e8, e17, e18, e16, rfl⟩
      have wi : IntKind.i64.wrap ((i : Int) + 1) = ((i + 1 : Nat) : Int) := by rw [wI (by omega) (by omega)]; omega
      obtain ⟨a, ea⟩ : ∃ a, vs[i]? = some a := ⟨vs[i], List.getElem?_eq_getElem (by omega)⟩
      have ca := r0.cell i a ea
      obtain ⟨pa, _⟩ := r0.ptr (by omega)
      obtain ⟨aS, aL⟩ := (r1 i a _ ea (passR_get W N 7 i hi)).sl
      have l1 := passTo_len W N i
      have l2 := passL_len i W N
      have l3 : i * N ≤ 6 * 1600 := Nat.mul_le_mul (by omega) hWH
      have l4 : (passTo W N (i + 1)).length = (passTo W N i).length + (passL i W N).length := by rw [passTo, List.length_append]
      have ws : IntKind.i64.wrap (((passTo W N i).length : Int) + ((passL i W N).length : Int)) = ((passTo W N (i + 1)).length : Int) := by rw [wI (by omega) (by omega)]; omega
      simp [e17, e18, pS, pL]
      refine ite_r (t := true) (by simp; omega) (fun _ => ?_) (fun h => by cases h)
      simp [wp_blk, e17, e18, e16, pS, pL, hi, pa, ca, aS, aL, ws]
      simp [-Int.natCast_add, e7, e8, e17, wi]
      omega
    · rintro env _ ⟨e7, e8, e17, e18, e16, rfl⟩
      have l7 : (passTo W N 7).length = N := passes_ok.1
      simp [e17, e18, pS, pL]
      refine ite_r (t := false) (by simp) (fun h => by cases h) (fun _ => ?_)
      simp [e7, e8, e16, e17, pS, pL, eWH, wN, l7]
      refine ifg_r (t := true) (by simp) (fun _ => ?_) (fun h => (h rfl).elim)
      refine callm sknown_c (by simp) ?_
      intro w5 M5
      simp
      exact M4.tr M5

end Go.Proofs.Ytbncppklmhfnmaa.VG
