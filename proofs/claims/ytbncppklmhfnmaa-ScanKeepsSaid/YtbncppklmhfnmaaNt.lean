/-
  Scan: the law of what rough keeps.
-/
import Derived.Test.YtbncppklmhfnmaaNs
namespace Go.Proofs.Ytbncppklmhfnmaa.VG
open Go
set_option linter.unusedSimpArgs false
set_option linter.unusedVariables false
set_option maxRecDepth 20000

set_option maxHeartbeats 8000000 in
theorem skeeps_law {w : World} {tv : Value} {t : List Int} (wd h p : Int) (ht : Rd (fun k => k < w.heap.size) w tv t.length (intsV t)) (hm : t.length ≤ maxLen) :
    Calls Try.prog 7 [tv, .int .i64 wd, .int .i64 h, .int .i64 p].toArray w (Ret fun r w' => r = .bool true ∧ Mod none' w w') := by
  refine F_sound c7 (by simp [fc7]) ?_
  simp [fc7, s7]
  refine callp (within_c wd 1 30 (by omega) (by omega) (by omega)) (by simp) ?_
  refine callp (within_c h 1 30 (by omega) (by omega) (by omega)) (by simp) ?_
  refine callp (within_c p 1 7 (by omega) (by omega) (by omega)) (by simp) ?_
  have ba := with_bd (n := wd) (lo := 1) (hi := 30) (by omega)
  have bb := with_bd (n := h) (lo := 1) (hi := 30) (by omega)
  have bn := with_bd (n := p) (lo := 1) (hi := 7) (by omega)
  obtain ⟨W, hW⟩ : ∃ W : Nat, withI wd 1 30 = W := ⟨(withI wd 1 30).toNat, by omega⟩
  obtain ⟨H', hH'⟩ : ∃ H' : Nat, withI h 1 30 = H' := ⟨(withI h 1 30).toNat, by omega⟩
  obtain ⟨n, hn⟩ : ∃ n : Nat, withI p 1 7 = n := ⟨(withI p 1 7).toNat, by omega⟩
  rw [hW] at ba ⊢
  rw [hH'] at bb ⊢
  rw [hn] at bn ⊢
  simp
  refine call_h (tnew_c t.length ht.cells1) (by simp) ?_
  rintro r w1 ⟨b, rfl, H⟩
  simp
  obtain ⟨hT, hlow, upR, up⟩ := H.tp 0 rfl
  have hg : ¬ (b < w.heap.size) := by omega
  refine call_h (plane_c hT (ht.at H.mod) hg hm (fun k hk => by have := H.mod.size; omega) W H' 8 (by omega) (by omega) (by omega) (by decide)) (by simp) ?_
  rintro xv w2 ⟨x, hpx, A, hs⟩
  replace H := upR _ _ A hs
  replace H : Hp w w2 [.tp b tv t.length, .own 3 1 xv (W * H') (intsV x)] := H
  simp
  obtain ⟨hT, _, upR, up⟩ := H.tp 0 rfl
  refine call_h (plane_c hT (ht.at H.mod) hg hm (fun k hk => by have := H.mod.size; omega) W H' 8 (by omega) (by omega) (by omega) (by decide)) (by simp) ?_
  rintro yv w3 ⟨y, hpy, A, hs⟩
  replace H := upR _ _ A hs
  replace H : Hp w w3 [.own 3 1 xv (W * H') (intsV x), .own 3 1 yv (W * H') (intsV y)] := H.drop 0
  have hxl := hpx.1
  have hyl := hpy.1
  clear hs A up upR hT
  have hWH : W * H' ≤ 30 * 30 := Nat.mul_le_mul (by omega) (by omega)
  have hma : mayB W H' = true := mayB_iff.2 ⟨by omega, by omega⟩
  have hpI : passRI (W : Int) (H' : Int) = passR W (W * H') 7 := by rw [passRI, if_pos hma]; rfl
  have hrx : roughI x W H' n = _ := roughI_mid (by omega) (by omega) hxl (by omega) (by omega)
  have hrt := rough_twice (x := x) (W := W) (H := H') (a := stX n) (c := stY n) (by omega)
  have hrrl : (roughL x W (stX n) (stY n) (W * H')).length = W * H' := by rw [roughL, mapTo_len]
  have hrr : roughI (roughL x W (stX n) (stY n) (W * H')) W H' n = _ := roughI_mid (by omega) (by omega) hrrl (by omega) (by omega)
  rw [hrt] at hrr
  have hkeep : ∀ i k, i < n → k < W * H' → passP i W k = true → gi (roughL x W (stX n) (stY n) (W * H')) k = gi x k := fun i k hi hk hp => rough_keep (by omega) (by omega) hi hk hp
  have htook : ∀ z, Took x y z (W * H') (fun k => k ∈ passTo W (W * H') n) → roughI z W H' n = roughL x W (stX n) (stY n) (W * H') := fun z hz => by
    rw [roughI_mid (by omega) (by omega) hz.1 (by omega) (by omega)]
    exact rough_took (by omega) (by omega) (by omega) hz
  generalize roughL x W (stX n) (stY n) (W * H') = rl at *
  simp
  refine call_h (passes_c W H') (by simp) ?_
  rw [hpI]
  generalize W * H' = N at *
  intro pv w4 hO
  replace H := H.same hO.mod
  obtain ⟨vs, hvs, r0, r1⟩ := hO.rd.ex
  rw [passR_len] at hvs r0
  obtain ⟨pS, pL⟩ := r0.sl
  have rx : Rd (fun k => w.heap.size ≤ k) w4 xv x.length (intsV x) := by have := H.rd 0 rfl; rwa [← hxl] at this
  have ry : Rd (fun k => w.heap.size ≤ k) w4 yv y.length (intsV y) := by have := H.rd 1 rfl; rwa [← hyl] at this
  have M4 := H.mod
  clear H hO
  obtain ⟨xS, xL⟩ := rx.sl
  simp [pS, pL]
  refine ite_r (t := false) (by simp) (fun h => by cases h) (fun _ => ?_)
  simp
  refine bs_h slTI ([] : List Value) (Hp.nil w4) rfl (by decide) (by simp) (by simp) ?_
  intro zv0 w5 H M5
  refine ⟨.inl rfl, ?_⟩
  simp
  refine app_h slTI 0 H rfl (ry.at H.mod) (by simp [intsV]) (intsV_one _) (by omega) (by unfold maxLen; omega) (by simp) (by simp) ?_
  intro zv w6 H
  refine ⟨.inl rfl, ?_⟩
  replace H : Hp w4 w6 [.own 3 1 zv N (intsV y)] := by simpa [hyl] using H
  simp
  refine for_r n (fun i env' w' => env' 9 = .int .i64 W ∧ env' 10 = .int .i64 H' ∧ env' 11 = .int .i64 n ∧ env' 13 = xv ∧ env' 15 = pv ∧ env' 16 = zv ∧ env' 17 = .int .i64 i ∧ ∃ z, Took x y z N (fun k => k ∈ passTo W N i) ∧ Hp w4 w' [.own 3 1 zv N (intsV z)]) ?_ ?_ ?_
  · simp
    exact ⟨y, ⟨hyl, fun k hk => ⟨fun h => by simp [passTo] at h, fun _ => rfl⟩⟩, H⟩
  · clear H
    rintro i env w7 hi ⟨e9, e10, e11, e13, e15, e16, e17, z, hz, H⟩
    have wi : IntKind.i64.wrap ((i : Int) + 1) = ((i + 1 : Nat) : Int) := by rw [wI (by omega) (by omega)]; omega
    have hi7 : i < 7 := by omega
    obtain ⟨a, ea⟩ : ∃ a, vs[i]? = some a := ⟨vs[i], List.getElem?_eq_getElem (by omega)⟩
    have ca := r0.cell i a ea
    obtain ⟨pa, _⟩ := r0.ptr (by omega)
    have ra := r1 i a _ ea (passR_get W N 7 i hi7)
    obtain ⟨aS, aL⟩ := ra.sl
    have lP := passL_len i W N
    simp [e11, e17]
    refine ite_r (t := true) (by simp; omega) (fun _ => ?_) (fun h => by cases h)
    simp [wp_blk]
    refine for_r (passL i W N).length (fun j env' w' => env' 9 = .int .i64 W ∧ env' 10 = .int .i64 H' ∧ env' 11 = .int .i64 n ∧ env' 13 = xv ∧ env' 15 = pv ∧ env' 16 = zv ∧ env' 17 = .int .i64 i ∧ env' 18 = .int .i64 j ∧ ∃ z, Took x y z N (inTo W N i j) ∧ Hp w4 w' [.own 3 1 zv N (intsV z)]) ?_ ?_ ?_
    · simp [e9, e10, e11, e13, e15, e16, e17]
      exact ⟨z, hz.same fun k => inTo_zero k, H⟩
    · clear H hz
      rintro j env w8 hj ⟨e9, e10, e11, e13, e15, e16, e17, e18, z, hz, H⟩
      have wj : IntKind.i64.wrap ((j : Int) + 1) = ((j + 1 : Nat) : Int) := by rw [wI (by omega) (by omega)]; omega
      obtain ⟨k, hk, hkN, hkp⟩ := passL_gi hj
      have hkx : k < x.length := by omega
      have c0 : w8.cell? ((slB pv).add i) = some a := H.mod.cell ca (fun h => h)
      have hzl := hz.1
      simp [e15, e17, e18, pS, pL, hi7, pa, c0, aS, aL]
      refine ⟨by omega, ?_⟩
      refine ite_r (t := true) (by simp; omega) (fun _ => ?_) (fun h => by cases h)
      replace H := H.drew
      have c1 := (ra.at H.mod).gi j hj
      have p1 := ra.some (by omega)
      have c2 := (rx.at H.mod).gi k hkx
      have p2 := rx.some (by omega)
      obtain ⟨zS, zL⟩ := (H.rd 0 rfl).sl
      have p3 := (H.rd 0 rfl).some (by omega)
      rw [hk] at c1
      simp only [cell_drew] at c1 c2
      simp [wp_blk, e13, e15, e16, e17, e18, pS, pL, hi7, pa, c0, aS, aL, c1, p1, c2, p2, xS, xL, hj, hkx, zS, zL, p3, hkN]
      refine ⟨by omega, ?_⟩
      refine set_h 0 H rfl (i := k) (u := .int .i64 (gi x k)) hkN (by simp [e16, zS, zL, p3, hkN]) (by simp) (by simp) ?_
      intro w9 H
      refine ⟨.inl rfl, ?_⟩
      simp only [List.set_cons_zero] at H
      rw [intsV_put] at H
      simp [-Int.natCast_add, e9, e10, e11, e13, e15, e16, e17, e18, wj]
      exact ⟨by omega, _, hz.snoc hkN (fun m => by rw [inTo_succ hj, hk]), H⟩
    · clear H hz
      rintro env w8 ⟨e9, e10, e11, e13, e15, e16, e17, e18, z, hz, H⟩
      have c0 : w8.cell? ((slB pv).add i) = some a := H.mod.cell ca (fun h => h)
      simp [e15, e17, e18, pS, pL, hi7, pa, c0, aS, aL]
      refine ⟨by omega, ?_⟩
      refine ite_r (t := false) (by simp) (fun h => by cases h) (fun _ => ?_)
      simp [-Int.natCast_add, e9, e10, e11, e13, e15, e16, e17, wi]
      exact ⟨by omega, z, hz.same fun k => inTo_end k, H⟩
  · clear H
    rintro env w7 ⟨e9, e10, e11, e13, e15, e16, e17, z, hz, H⟩
    simp [e11, e17]
    refine ite_r (t := false) (by simp) (fun h => by cases h) (fun _ => ?_)
    simp
    have hzl := hz.1
    have hrz := htook z hz
    have rz : Rd (fun k => w4.heap.size ≤ k) w7 zv z.length (intsV z) := by have := H.rd 0 rfl; rwa [← hzl] at this
    refine call_h (rough_c (rx.at H.mod) (by omega) W H' n) (by simp [e9, e10, e11, e13]) ?_
    rw [hrx]
    intro rv w8 h1
    have M8 := H.mod.tr h1.mod
    simp
    refine call_h (rough_c (rz.at h1.mod) (by omega) W H' n) (by simp [e9, e10, e11, e16]) ?_
    rw [hrz]
    intro r2 w9 h2
    have MZ := H.mod
    replace H : Hp w7 w9 [.own 3 1 rv rl.length (intsV rl), .own 3 1 r2 rl.length (intsV rl)] := h1.join h2
    clear h1 h2 M8
    refine callm (ints_c (H.rd 0 rfl) (H.rd 1 rfl) (by unfold maxLen; omega)) (by simp (disch := omega) [wI, wU, tmod_nn, tdiv_nn, env0_0, env0_1, env0_2, env0_3, env0_4, env0_5, -env0_apply]) ?_
    intro w' M'
    replace H := H.same M'
    simp
    refine ifg_r (t := false) (by simp) (fun _ => ?_) (fun h => (h rfl).elim)
    replace H : Hp w7 w' [.own 3 1 rv rl.length (intsV rl)] := H.drop 1
    refine call_h (rough_c (H.rd 0 rfl) (by omega) W H' n) (by simp [e9, e10, e11]) ?_
    rw [hrr]
    intro r3 w10 h3
    replace H := H.join h3
    simp
    refine ifg_r (t := false) (by simp) (fun _ => ?_) (fun h => (h rfl).elim)
    refine callm (ints_c (H.rd 0 rfl) (H.rd 1 rfl) (by unfold maxLen; omega)) (by simp (disch := omega) [wI, wU, tmod_nn, tdiv_nn, env0_0, env0_1, env0_2, env0_3, env0_4, env0_5, -env0_apply]) ?_
    intro w' M'
    replace H := H.same M'
    replace H := H.drop 1
    simp
    refine ite_r (t := false) (by simp) (fun h => by cases h) (fun _ => ?_)
    simp
    generalize w' = wv at *
    have MH := H.mod
    have rr := H.rd 0 rfl
    obtain ⟨rS, rL⟩ := rr.sl
    have hmodw := MZ.tr MH
    have r0' := r0.at hmodw
    have rx' := rx.at hmodw
    have rows' : ∀ i a, vs[i]? = some a → i < 7 → Rd (fun k => w3.heap.size ≤ k) wv a (passL i W N).length (intsV (passL i W N)) := fun i a ea hi => (r1 i a _ ea (passR_get W N 7 i hi)).at hmodw
    clear H h3 hz hrz rz
    refine for_r n (fun i env' w' => env' 11 = .int .i64 n ∧ env' 13 = xv ∧ env' 15 = pv ∧ env' 19 = rv ∧ env' 20 = .int .i64 i ∧ Mod none' wv w') ?_ ?_ ?_
    · simp [e11, e13, e15, Mod.refl]
    · rintro i env w11 hi ⟨e11, e13, e15, e19, e20, MV⟩
      have wi : IntKind.i64.wrap ((i : Int) + 1) = ((i + 1 : Nat) : Int) := by rw [wI (by omega) (by omega)]; omega
      have hi7 : i < 7 := by omega
      obtain ⟨a, ea⟩ : ∃ a, vs[i]? = some a := ⟨vs[i], List.getElem?_eq_getElem (by omega)⟩
      obtain ⟨pa, _⟩ := r0.ptr (by omega)
      have ra := rows' i a ea hi7
      obtain ⟨aS, aL⟩ := ra.sl
      have lP := passL_len i W N
      simp [e11, e20]
      refine ite_r (t := true) (by simp; omega) (fun _ => ?_) (fun h => by cases h)
      simp [wp_blk]
      refine for_r (passL i W N).length (fun j env' w' => env' 11 = .int .i64 n ∧ env' 13 = xv ∧ env' 15 = pv ∧ env' 19 = rv ∧ env' 20 = .int .i64 i ∧ env' 21 = .int .i64 j ∧ Mod none' wv w') ?_ ?_ ?_
      · simp [e11, e13, e15, e19, e20]
        exact MV
      · clear MV
        rintro j env w12 hj ⟨e11, e13, e15, e19, e20, e21, MV⟩
        have wj : IntKind.i64.wrap ((j : Int) + 1) = ((j + 1 : Nat) : Int) := by rw [wI (by omega) (by omega)]; omega
        obtain ⟨k, hk, hkN, hkp⟩ := passL_gi hj
        have hkx : k < x.length := by omega
        have hkr : k < rl.length := by omega
        have c0 := (r0'.at MV).cell i a ea
        have c1 := (ra.at MV).gi j hj
        have p1 := ra.some (by omega)
        have c2 := (rx'.at MV).gi k hkx
        have p2 := rx.some (by omega)
        have c3 := (rr.at MV).gi k hkr
        have p3 := rr.some (by omega)
        rw [hk] at c1
        rw [hkeep i k hi hkN hkp] at c3
        simp [e15, e20, e21, pS, pL, hi7, pa, c0, aS, aL]
        refine ⟨by omega, ?_⟩
        refine ite_r (t := true) (by simp; omega) (fun _ => ?_) (fun h => by cases h)
        simp [wp_blk, e13, e15, e19, e20, e21, pS, pL, hi7, pa, c0, aS, aL, c1, p1, c2, p2, c3, p3, xS, xL, rS, rL, hj, hkx, hkr]
        refine ⟨by omega, ?_⟩
        refine ite_r (t := false) (by simp) (fun h => by cases h) (fun _ => ?_)
        simp [-Int.natCast_add, e11, e13, e15, e19, e20, e21, wj]
        exact ⟨by omega, MV.drew⟩
      · clear MV
        rintro env w12 ⟨e11, e13, e15, e19, e20, e21, MV⟩
        have c0 := (r0'.at MV).cell i a ea
        simp [e15, e20, e21, pS, pL, hi7, pa, c0, aS, aL]
        refine ⟨by omega, ?_⟩
        refine ite_r (t := false) (by simp) (fun h => by cases h) (fun _ => ?_)
        simp [-Int.natCast_add, e11, e13, e15, e19, e20, wi]
        exact ⟨by omega, MV⟩
    · rintro env w11 ⟨e11, e13, e15, e19, e20, MV⟩
      simp [e11, e20]
      refine ite_r (t := false) (by simp) (fun h => by cases h) (fun _ => ?_)
      simp
      refine callm sknown_c (by simp) ?_
      intro w12 M12
      simp
      exact ((M4.tr hmodw).tr MV).tr M12

end Go.Proofs.Ytbncppklmhfnmaa.VG
