/-
  Match: tokens of the least cost.
-/
import Derived.Test.YtfanamibkgkaiaaDoorDj
namespace Go.Proofs.YtfanamibkgkaiaaDoor.VG
open Go
set_option linter.unusedSimpArgs false
set_option linter.unusedVariables false
set_option maxRecDepth 20000

theorem fT_step {l : List Int} {lit cp : Int} {k : Nat} (hk : k < l.length) : (fT l lit cp k).set (l.length - (k + 1)) (tokOf l (l.length - (k + 1)) (sT l lit cp (k + 1) (l.length - (k + 1)))) = fT l lit cp (k + 1) := by
  apply List.ext_getElem
  · simp [fT]
  · intro j h1 h2
    simp only [fT, List.length_map, List.length_range] at h2
    simp only [fT, List.getElem_set, List.getElem_map, List.getElem_range]
    by_cases hj : l.length - (k + 1) = j
    · rw [if_pos hj, if_pos (by omega), hj]
    · rw [if_neg hj]
      by_cases h3 : l.length - k ≤ j
      · rw [if_pos h3, if_pos (by omega)]
        rw [sT, if_neg (fun h => hj h.symm)]
      · rw [if_neg h3, if_neg (by omega)]
theorem cT_step {l : List Int} {lit cp : Int} {k : Nat} {v : Int} (hv : v = cT l lit cp (k + 1) (l.length - (k + 1))) (n : Nat) : mapR (fun j => if j = l.length - (k + 1) then v else cT l lit cp k j) n = mapR (cT l lit cp (k + 1)) n := by
  apply mapR_congr
  intro j _
  by_cases hj : j = l.length - (k + 1)
  · rw [if_pos hj, hv, hj]
  · rw [if_neg hj, cT, if_neg hj]
theorem toksV_zeros (n : Nat) : (madeCells (tokV (0, 0, 0)).cells (n * 3)).toList = toksV ((List.range n).map fun _ => (0, 0, 0)) := by
  apply List.ext_getElem
  · simp [size_madeCells, toksV_len]
  · intro i h1 h2
    have hl : i < n * 3 := by simpa [size_madeCells] using h1
    obtain ⟨q, r, hq, hr⟩ : ∃ q r, i = q * 3 + r ∧ r < 3 := ⟨i / 3, i % 3, by omega, by omega⟩
    have hg := toksV_get ((List.range n).map fun _ => ((0, 0, 0) : Int × Int × Int)) q (0, 0, 0) (by rw [List.getElem?_map, List.getElem?_range (by omega)]; rfl)
    have hR : (toksV ((List.range n).map fun _ => ((0, 0, 0) : Int × Int × Int)))[i]? = some (.int .i64 0) := by
      obtain rfl | rfl | rfl : r = 0 ∨ r = 1 ∨ r = 2 := by omega
      · rw [hq]; exact hg.1
      · rw [hq]; exact hg.2.1
      · rw [hq]; exact hg.2.2
    have hR' := List.getElem?_eq_some_iff.1 hR
    rw [hR'.2]
    have hm : i % 3 = r := by omega
    obtain rfl | rfl | rfl : r = 0 ∨ r = 1 ∨ r = 2 := by omega
    all_goals simp [madeCells, tokV, Value.cells, hm]
theorem zeroT {z : Value} (h : ∃ i, Tryd.prog.info? 47 = some i ∧ i.zero = some z) : z = tokV (0, 0, 0) := by
  obtain ⟨i, hi, hz⟩ := h
  obtain ⟨j, h3, h4⟩ := info47
  rw [h3] at hi
  cases hi
  rw [h4] at hz
  cases hz
  rfl
theorem fT_zero (l : List Int) (lit cp : Int) : ((List.range l.length).map fun _ => ((0, 0, 0) : Int × Int × Int)) = fT l lit cp 0 := by
  apply List.map_congr_left
  intro j hj
  rw [if_neg (by have := List.mem_range.1 hj; omega)]
theorem tokOf_one (l : List Int) (a s : Nat) : (tokOf l a s).1 = s := by
  unfold tokOf
  split
  · rename_i h; simp [h]
  · rfl

def LInv (W w0 : World) (v : Value) (l : List Int) (L : List (Int × Int × Int)) (s : Nat → Nat) (its : List It) (fv : Value) (m : Nat) (env' : Env) (w' : World) : Prop :=
  ∃ (a : Nat) (T : List (Int × Int × Int)), m = l.length - a ∧ a ≤ l.length + 64 ∧ env' 0 = v ∧ env' 9 = fv ∧ env' 15 = .int .i64 a ∧ L = T ++ lT l s (l.length - a) a ∧ Hp W w' (its ++ [.own 47 3 (env' 14) T.length (toksV T)])

set_option maxHeartbeats 16000000 in
theorem least_c {G : Nat → Prop} {w : World} {v : Value} {l : List Int} (hr : Rd G w v l.length (intsV l)) (hG : ∀ k, G k → k < w.heap.size) (hl : l.length ≤ 100000) (lit cp : Int) :
    Calls Tryd.prog 17 [v, .int .i64 lit, .int .i64 cp].toArray w (Ret fun r w' => OwnT w w' r (leastI l lit cp)) := by
  refine F_sound c17 (by simp [fc17]) ?_
  obtain ⟨hS, hL⟩ := hr.sl
  simp [fc17, s17, hS, hL]
  have hbb : (decide (lit < 1) || decide (1048576 < lit) || decide (cp < 1) || decide (1048576 < cp)) = leastBad lit cp := rfl
  by_cases hbad : leastBad lit cp = true
  · have hv : leastI l lit cp = [] := by rw [leastI, if_pos hbad]
    have hb' : ((lit < 1 ∨ 1048576 < lit) ∨ cp < 1) ∨ 1048576 < cp := by simpa [leastBad] using hbad
    rw [hv]
    refine ite_r (t := true) (by simp; omega) (fun _ => ?_) (fun h => by cases h)
    simp
    exact OwnT.nil (Mod.refl _ _)
  have hv : leastI l lit cp = leastL l lit cp := by rw [leastI, if_neg hbad]
  obtain ⟨⟨⟨h0, h1⟩, h2⟩, h3⟩ : ((1 ≤ lit ∧ lit ≤ 1048576) ∧ 1 ≤ cp) ∧ cp ≤ 1048576 := by simp [leastBad] at hbad; omega
  rw [hv]
  refine ite_r (t := false) (by simp; omega) (fun h => by cases h) (fun _ => ?_)
  simp [hS, hL]
  obtain ⟨i10, hi10, z10, hz10, hzc⟩ : ∃ i, Tryd.prog.info? 53 = some i ∧ ∃ z, i.zero = some z ∧ z.cells = (intsV (List.replicate 1025 0)).toArray := ⟨_, rfl, _, rfl, by kernel_rfl⟩
  obtain ⟨R0, hR0⟩ : ∃ R, R = List.replicate 1025 (0 : Int) := ⟨_, rfl⟩
  rw [← hR0] at hzc
  have hruns : RunsOk l l.length R0 := ⟨by rw [hR0, List.length_replicate], fun d h1 h2 => by rw [runI_end, hR0, gi, List.getD_eq_getElem?_getD, List.getElem?_replicate, if_pos (by omega)]; rfl⟩
  have wL : IntKind.i64.wrap ((l.length : Int) + 1) = ((l.length + 1 : Nat) : Int) := by rw [wI (by omega) (by omega)]; omega
  refine alloc_h (Hp.nil w) hi10 hz10 ?_
  intro b w1 H M1
  refine ⟨.inl rfl, ?_⟩
  replace H : Hp w w1 [.blk b (intsV R0).toArray] := by rw [← hzc]; exact H
  have hbn := (H.blkNew 0 rfl).1
  have hgb : ¬ G b := fun h => by have := hG b h; omega
  simp [hS, hL]
  refine mkN_h slTI (kl := .i64) (kc := .i64) (n := l.length + 1) (xs := intsV (List.replicate (l.length + 1) 0)) H (by simp [-Int.natCast_add, hS, hL, wL]) (by simp [-Int.natCast_add, hS, hL, wL]) (by omega) (by unfold maxLen; omega) (fun z hz => by rw [zero64 hz, intsV_zeros]) ?_
  intro cv w2 H M2
  refine ⟨.inl rfl, ?_⟩
  simp [hS, hL]
  refine mkN_h slTT (kl := .i64) (kc := .i64) (n := l.length) (xs := toksV ((List.range l.length).map fun _ => (0, 0, 0))) H (by simp [hS, hL]) (by simp [hS, hL]) (by omega) (by unfold maxLen; omega) (fun z hz => by rw [zeroT hz, toksV_zeros]) ?_
  intro fv w3 H M3
  refine ⟨.inl rfl, ?_⟩
  rw [mapR_zero, fT_zero l lit cp] at H
  replace H : Hp w w3 [.blk b (intsV R0).toArray, .own 3 1 cv (l.length + 1) (intsV (mapR (cT l lit cp 0) (l.length + 1))), .own 47 3 fv l.length (toksV (fT l lit cp 0))] := H
  have w1' : IntKind.i64.wrap ((l.length : Int) - 1) = (l.length : Int) - 1 := wI (by omega) (by omega)
  simp [hS, hL, w1']
  refine for_r l.length (fun k env' w' => env' 0 = v ∧ env' 1 = .int .i64 lit ∧ env' 2 = .int .i64 cp ∧ env' 7 = .pointer (some ⟨b, 0, none⟩) ∧ env' 8 = cv ∧ env' 9 = fv ∧ env' 10 = .int .i64 ((l.length : Int) - 1 - k) ∧
    ∃ R, RunsOk l (l.length - k) R ∧ Hp w w' [.blk b (intsV R).toArray, .own 3 1 cv (l.length + 1) (intsV (mapR (cT l lit cp k) (l.length + 1))), .own 47 3 fv l.length (toksV (fT l lit cp k))]) ?_ ?_ ?_
  · simp
    exact ⟨R0, hruns, H⟩
  · clear H
    rintro k env w4 hk ⟨e0, e1, e2, e7, e8, e9, e10, R, hR, H⟩
    obtain ⟨a, ha⟩ : ∃ a, a = l.length - (k + 1) := ⟨_, rfl⟩
    have hal : a < l.length := by omega
    have e10' : env 10 = .int .i64 (a : Int) := by rw [e10]; congr 1; omega
    have wk : IntKind.i64.wrap ((a : Int) - 1) = (l.length : Int) - 1 - (k + 1) := by rw [wI (by omega) (by omega)]; omega
    have wa : IntKind.i64.wrap ((a : Int) + 1) = ((a + 1 : Nat) : Int) := by rw [wI (by omega) (by omega)]; omega
    have hcb := cT_bd (l := l) (lit := lit) (cp := cp) h0 h1 h2 h3 k
    have hkb : (1048576 * k : Int) ≤ 1048576 * 100000 := by omega
    obtain ⟨c0, hc0⟩ : ∃ c0, c0 = cT l lit cp k (a + 1) + lit := ⟨_, rfl⟩
    have wc0 : IntKind.i64.wrap (cT l lit cp k (a + 1) + lit) = c0 := by have := hcb (a + 1); rw [wI (by omega) (by omega), hc0]
    obtain ⟨cS, cL⟩ := (H.rd 1 rfl).sl
    obtain ⟨fS, fL⟩ := (H.rd 2 rfl).sl
    have cp1 := (H.rd 1 rfl).some (by rw [mapR_len]; omega)
    have fp1 := ((H.rd 2 rfl).ptr (by rw [toksV_len, fT_len]; omega)).1
    have cc := (H.rd 1 rfl).gi (a + 1) (by rw [mapR_len]; omega)
    rw [mapR_gi _ _ _ (by omega)] at cc
    have hrl := (hr.at H.mod).gi a hal
    have hrp := hr.some (by omega)
    have ha1 : a + 1 < l.length + 1 := by omega
    have ha1' : ((a + 1 : Nat) : Int) < ((l.length + 1 : Nat) : Int) := by omega
    have haL : (a : Int) < ((l.length + 1 : Nat) : Int) := by omega
    simp [e10']
    refine ite_r (t := true) (by simp) (fun _ => ?_) (fun h => by cases h)
    simp [-Int.natCast_add, wp_blk, e1, e8, e10', wa, cS, cL, cp1, cc, ha1, wc0, haL]
    refine set_h 1 H rfl (i := a) (u := .int .i64 c0) (by omega) (by simp [e8, e10', cS, cL, cp1, haL]) (by simp [e1, wc0]) (by simp) ?_
    intro w5 H
    refine ⟨.inl rfl, ?_⟩
    simp only [List.set_cons_succ, List.set_cons_zero] at H
    rw [intsV_put, mapR_set] at H
    have hrl := (hr.at H.mod).gi a hal
    simp [-Int.natCast_add, e0, e9, e10', hS, hL, hal, hrp, hrl, fS, fL, fp1, Value.cells]
    refine setN_h 2 H rfl (i := a) (u := tokV (0, 0, gi l a)) hal (by simp [e9, e10', fS, fL, fp1, hal]) (by simp [tokV, putAt, Value.cells]) rfl (tokC_one _) ?_
    intro w6 H
    refine ⟨.inl rfl, ?_⟩
    simp only [List.set_cons_succ, List.set_cons_zero] at H
    rw [toks_set _ _ _ (by rw [fT_len]; exact hal)] at H
    obtain ⟨F, hP, hF, hu⟩ := H.upd 0 rfl
    have hFe : F = fun k => k = b := hP.2
    subst hFe
    have hRa : RunsOk l (a + 1) R := by rw [ha, show l.length - (k + 1) + 1 = l.length - k by omega]; exact hR
    refine call_h (dists_c (hr.at H.mod) (by omega) hgb hP hRa hal) (by simp [e0, e7, e10']) ?_
    rintro r w7 ⟨rfl, R', hR', hP', hM⟩
    replace H := hu _ w7 _ hM hP' (fun k hk => .inl hk)
    simp only [List.set_cons_zero] at H
    clear hP hP' hM hu
    have ha' : a = l.length - (k + 1) := ha
    obtain ⟨D, hD⟩ : ∃ D, D = min a 1024 := ⟨_, rfl⟩
    rw [← hD]
    obtain ⟨f, hf⟩ : ∃ f : Nat → Int, f = fun n => cT l lit cp k (a + n) + cp := ⟨_, rfl⟩
    have hN64 := roomN_le l a
    have hNr := roomN_room (l := l) (a := a) (by omega)
    obtain ⟨N, hN⟩ : ∃ N, N = roomN l a := ⟨_, rfl⟩
    rw [← hN] at hN64 hNr
    have hiff : ∀ n, 1 ≤ n → (fdT l a D n ≠ 0 ↔ n ≤ N) := fun n hn => by rw [hN, roomN, ← hD]; exact fdT_iff l a hn D
    have hct : (bp f c0 N).1 = cT l lit cp (k + 1) a := by rw [cT, if_pos ha', ← ha', hf, hc0, hN]
    have hst : (bp f c0 N).2 = sT l lit cp (k + 1) a := by rw [sT, if_pos ha', ← ha', ← hf, ← hc0, ← hN]
    have hfr : ∀ n, 0 ≤ f n ∧ f n ≤ 1048576 * 100000 + 1048576 := fun n => by rw [hf]; have := hcb (a + n); simp only []; omega
    have hb0 : bp f c0 0 = (c0, 0) := rfl
    have htok0 : ((0, 0, gi l a) : Int × Int × Int) = tokOf l a (bp f c0 (min (0 - 1) N)).2 := by rw [show min (0 - 1) N = 0 by omega]; rfl
    have hcost0 : c0 = (bp f c0 (min (0 - 1) N)).1 := by rw [show min (0 - 1) N = 0 by omega]; rfl
    rw [htok0] at H
    have hH0 : Hp w w7 [.blk b (intsV R').toArray, .own 3 1 cv (l.length + 1) (intsV (mapR (fun j => if j = a then (bp f c0 (min (0 - 1) N)).1 else cT l lit cp k j) (l.length + 1))), .own 47 3 fv l.length (toksV ((fT l lit cp k).set a (tokOf l a (bp f c0 (min (0 - 1) N)).2)))] := by
      rw [← hcost0]; exact H
    clear H
    simp
    refine for_r 65 (fun n env' w' => env' 0 = v ∧ env' 1 = .int .i64 lit ∧ env' 2 = .int .i64 cp ∧ env' 7 = .pointer (some ⟨b, 0, none⟩) ∧ env' 8 = cv ∧ env' 9 = fv ∧ env' 10 = .int .i64 a ∧ env' 64 = .agg (intsV (dsL l a D)).toArray ∧ env' 65 = .int .i64 n ∧
      Hp w w' [.blk b (intsV R').toArray, .own 3 1 cv (l.length + 1) (intsV (mapR (fun j => if j = a then (bp f c0 (min (n - 1) N)).1 else cT l lit cp k j) (l.length + 1))), .own 47 3 fv l.length (toksV ((fT l lit cp k).set a (tokOf l a (bp f c0 (min (n - 1) N)).2)))]) ?_ ?_ ?_
    · refine ⟨by simp [e0], by simp [e1], by simp [e2], by simp [e7], by simp [e8], by simp [e9], by simp [e10'], by simp, by simp, hH0⟩
    · clear hH0 e0 e1 e2 e7 e8 e9 e10 e10' hrl
      rintro n env w8 hn ⟨e0, e1, e2, e7, e8, e9, e10, e64, e65, H⟩
      have wn : IntKind.i64.wrap ((n : Int) + 1) = ((n + 1 : Nat) : Int) := by rw [wI (by omega) (by omega)]; omega
      have hds : (intsV (dsL l a D)).toArray.getD n undef = .int .i64 (dsV l a D n) := by simp [intsV, dsL, hn]
      have hn65 : (n : Int) < 65 := by omega
      simp [e65]
      refine ite_r (t := true) (by simp; omega) (fun _ => ?_) (fun h => by cases h)
      simp [wp_blk, e64, e65, hds, hn65]
      refine ⟨by simp [intsV, dsL]; omega, ?_⟩
      by_cases hskip : n < 3 ∨ N < n
      · have hz : n < 3 ∨ dsV l a D n = 0 := by
          rcases hskip with h | h
          · exact .inl h
          · right
            unfold dsV
            split
            · rfl
            · have := hiff n (by omega)
              have h2 : ¬ fdT l a D n ≠ 0 := fun h' => by have := this.1 h'; omega
              have h3 : fdT l a D n = 0 := by omega
              rw [h3]; rfl
        have hsame : bp f c0 (min (n + 1 - 1) N) = bp f c0 (min (n - 1) N) := by
          rcases hskip with h | h
          · rw [bp_small _ _ _ (by omega), bp_small _ _ _ (by omega)]
          · rw [show min (n + 1 - 1) N = N by omega, show min (n - 1) N = N by omega]
        refine ite_r (t := true) (by simp; omega) (fun _ => ?_) (fun h => by cases h)
        simp [-Int.natCast_add, e0, e1, e2, e7, e8, e9, e10, e64, e65, wn]
        refine ⟨by omega, ?_⟩
        have := H
        rw [← hsame] at this
        simpa using this
      · have hn3 : 3 ≤ n := by omega
        have hnN : n ≤ N := by omega
        have hfd := (hiff n (by omega)).2 hnN
        have hdv : dsV l a D n = (fdT l a D n : Int) := by rw [dsV, if_neg (by omega)]
        have hm1 : min (n - 1) N = n - 1 := by omega
        have hm2 : min (n + 1 - 1) N = (n - 1) + 1 := by omega
        rw [hm1] at H
        have hbp : bp f c0 (n - 1 + 1) = if f n ≤ (bp f c0 (n - 1)).1 then (f n, n) else bp f c0 (n - 1) := by
          rw [bp, show n - 1 + 1 = n by omega]
          by_cases h : f n ≤ (bp f c0 (n - 1)).1
          · rw [if_pos h, if_pos ⟨hn3, h⟩]
          · rw [if_neg h, if_neg (fun h' => h h'.2)]
        have hg1 : gi (mapR (fun j => if j = a then (bp f c0 (n - 1)).1 else cT l lit cp k j) (l.length + 1)) (a + n) = cT l lit cp k (a + n) := by
          rw [mapR_gi _ _ _ (by omega), if_neg (by omega)]
        have hg2 : gi (mapR (fun j => if j = a then (bp f c0 (n - 1)).1 else cT l lit cp k j) (l.length + 1)) a = (bp f c0 (n - 1)).1 := by
          rw [mapR_gi _ _ _ (by omega), if_pos rfl]
        have cc1 := (H.rd 1 rfl).gi (a + n) (by rw [mapR_len]; omega)
        have cc2 := (H.rd 1 rfl).gi a (by rw [mapR_len]; omega)
        rw [hg1] at cc1
        rw [hg2] at cc2
        have wan : IntKind.i64.wrap ((a : Int) + n) = ((a + n : Nat) : Int) := by rw [wI (by omega) (by omega)]; omega
        have hfn : f n = cT l lit cp k (a + n) + cp := by rw [hf]
        have wf : IntKind.i64.wrap (cT l lit cp k (a + n) + cp) = f n := by have := hfr n; rw [hfn] at this ⊢; exact wI (by omega) (by omega)
        have hanl : a + n < l.length + 1 := by omega
        have hal1 : a < l.length + 1 := by omega
        have hnz : ¬ (fdT l a D n : Int) = 0 := by omega
        have hn3' : ¬ (n : Int) < 3 := by omega
        rw [hdv]
        refine ite_r (t := false) (by simp [hnz, hfd, hn3']; try omega) (fun h => by cases h) (fun _ => ?_)
        simp [-Int.natCast_add, e2, e8, e10, wan, cS, cL, cp1, cc1, cc2, hanl, hal1, wf]
        by_cases hle : f n ≤ (bp f c0 (n - 1)).1
        · rw [if_pos hle] at hbp
          refine ite_r (t := true) (by simp [hle]) (fun _ => ?_) (fun h => by cases h)
          simp [-Int.natCast_add, e8, e10, cS, cL, cp1, hal1, haL, putAt, Value.cells]
          refine set_h 1 H rfl (i := a) (u := .int .i64 (f n)) hal1 (by simp [e8, e10, cS, cL, cp1, haL]) (by simp) (by simp) ?_
          intro w9 H
          refine ⟨.inl rfl, ?_⟩
          simp only [List.set_cons_succ, List.set_cons_zero] at H
          rw [intsV_put, mapR_set] at H
          simp [-Int.natCast_add, e9, e10, fS, fL, fp1, hal]
          refine setN_h 2 H rfl (i := a) (u := tokV ((n : Int), (fdT l a D n : Int), 0)) hal (by simp [e9, e10, fS, fL, fp1, hal]) (by simp [tokV, putAt, Value.cells]) rfl (tokC_one _) ?_
          intro w10 H
          refine ⟨.inl rfl, ?_⟩
          simp only [List.set_cons_succ, List.set_cons_zero] at H
          rw [toks_set _ _ _ (by rw [List.length_set, fT_len]; exact hal), List.set_set] at H
          have htk : (((n : Int), (fdT l a D n : Int), 0) : Int × Int × Int) = tokOf l a n := by rw [tokOf, if_neg (by omega), ← hD]
          have hcm : (fun j => if j = a then f n else if j = a then (bp f c0 (n - 1)).1 else cT l lit cp k j) = (fun j => if j = a then f n else cT l lit cp k j) := by
            funext j
            by_cases hj : j = a
            · rw [if_pos hj, if_pos hj]
            · rw [if_neg hj, if_neg hj, if_neg hj]
          rw [htk, hcm] at H
          simp [-Int.natCast_add, e0, e1, e2, e7, e8, e9, e10, e64, e65, wn]
          refine ⟨by omega, ?_⟩
          have h2 := H
          have e1' : f n = (bp f c0 (min (n + 1 - 1) N)).1 := by rw [hm2, hbp]
          have e2' : n = (bp f c0 (min (n + 1 - 1) N)).2 := by rw [hm2, hbp]
          have e3' : tokOf l a n = tokOf l a (bp f c0 (min (n + 1 - 1) N)).2 := congrArg _ e2'
          rw [e3', e1'] at h2
          simpa using h2
        · rw [if_neg hle] at hbp
          refine ite_r (t := false) (by simp; omega) (fun h => by cases h) (fun _ => ?_)
          simp [-Int.natCast_add, e0, e1, e2, e7, e8, e9, e10, e64, e65, wn]
          refine ⟨by omega, ?_⟩
          have h2 := H
          rw [← hbp, ← hm2] at h2
          simpa using h2
    · clear hH0 e0 e1 e2 e7 e8 e9 e10 e10' hrl
      rintro env w8 ⟨e0, e1, e2, e7, e8, e9, e10, e64, e65, H⟩
      rw [show min (65 - 1) N = N by omega, hst] at H
      have hfs : (fT l lit cp k).set a (tokOf l a (sT l lit cp (k + 1) a)) = fT l lit cp (k + 1) := by rw [ha]; exact fT_step hk
      have hcs : mapR (fun j => if j = a then (bp f c0 N).1 else cT l lit cp k j) (l.length + 1) = mapR (cT l lit cp (k + 1)) (l.length + 1) := by rw [hct, ha]; exact cT_step rfl _
      rw [hfs, hcs] at H
      simp [e65]
      refine ite_r (t := false) (by simp) (fun h => by cases h) (fun _ => ?_)
      simp [e0, e1, e2, e7, e8, e9, e10, wk]
      exact ⟨R', by rw [← ha]; exact hR', H⟩
  · clear H
    rintro env w4 ⟨e0, e1, e2, e7, e8, e9, e10, R, hR, H⟩
    obtain ⟨fS, fL⟩ := (H.rd 2 rfl).sl
    simp [e10]
    refine ite_r (t := false) (by simp; omega) (fun h => by cases h) (fun _ => ?_)
    simp
    replace H := H.nilS (e := 47) (size := 3)
    obtain ⟨s, hs⟩ : ∃ s : Nat → Nat, s = sT l lit cp l.length := ⟨_, rfl⟩
    have hLs : leastL l lit cp = lT l s l.length 0 := by rw [hs]; rfl
    have hs64 : ∀ j, s j ≤ 64 := fun j => by rw [hs]; exact sT_le _ _
    have hget : ∀ j, j < l.length → (fT l lit cp l.length)[j]? = some (tokOf l j (s j)) := fun j hj => by rw [hs]; exact fT_get l lit cp l.length j hj (by omega)
    rw [hLs]
    obtain ⟨LL, hLL⟩ : ∃ LL, LL = lT l s l.length 0 := ⟨_, rfl⟩
    rw [← hLL]
    have hTlen := lT_len l s l.length 0
    rw [← hLL] at hTlen
    refine loop_r (LInv w w v l LL s [.blk b (intsV R).toArray, .own 3 1 cv (l.length + 1) (intsV (mapR (cT l lit cp l.length) (l.length + 1))), .own 47 3 fv l.length (toksV (fT l lit cp l.length))] fv) l.length ?_ ?_
    · exact ⟨0, [], rfl, by omega, by simp [e0], by simp [e9], by simp, hLL, H⟩
    · clear H e0 e1 e2 e7 e8 e9 e10
      rintro m env w5 ⟨a, T, rfl, ha, e0, e9, e15, hg, H⟩
      have hTl : T.length ≤ l.length := by rw [hg, List.length_append] at hTlen; omega
      by_cases hal : a < l.length
      · have hrd : Rd (fun k => w.heap.size ≤ k) w5 fv (fT l lit cp l.length).length (toksV (fT l lit cp l.length)) := by rw [fT_len]; exact H.rd 2 rfl
        have ta := tok_at hrd (hget a hal)
        have fp1 := ((H.rd 2 rfl).ptr (by rw [toksV_len, fT_len]; omega)).1
        have hsa := hs64 a
        obtain ⟨f, hf⟩ : ∃ f, l.length - a = f + 1 := ⟨l.length - a - 1, by omega⟩
        rw [hf, lT, if_pos hal] at hg
        generalize hrv : env 14 = rv at *
        simp [e0, e15, hS, hL]
        refine ite_r (t := true) (by simp; omega) (fun _ => ?_) (fun h => by cases h)
        simp [wp_blk, e9, e15, fS, fL, fp1, hal, ta.cs]
        refine ⟨ta.ok, ?_⟩
        refine appN_h slTT 3 H rfl (u := tokV (tokOf l a (s a))) (by omega) rfl (tokC_one _) (by omega) (by unfold maxLen; omega) (by simp [tokV, tokC]) (by simp [hrv]) (by simp) (.inl rfl) ?_
        intro vb v' w6 w7 _ H
        refine ⟨.inl rfl, ?_⟩
        simp only [List.cons_append, List.nil_append, List.set_cons_succ, List.set_cons_zero] at H
        rw [tokV_cells, toksV_snoc] at H
        have hrd : Rd (fun k => w.heap.size ≤ k) w7 fv (fT l lit cp l.length).length (toksV (fT l lit cp l.length)) := by rw [fT_len]; exact H.rd 2 rfl
        have ta := tok_at hrd (hget a hal)
        have c0 := ta.c0
        rw [tokOf_one] at c0
        obtain ⟨q, hq⟩ : ∃ q, q = max (s a) 1 := ⟨_, rfl⟩
        have hmx : (if (s a : Int) < 1 then (1 : Int) else (s a : Int)) = (q : Int) := by split <;> omega
        have wq : IntKind.i64.wrap ((a : Int) + q) = ((a + q : Nat) : Int) := by rw [wI (by omega) (by omega)]; omega
        rw [← hq] at hg
        simp [-Int.natCast_add, e9, e15, fS, fL, fp1, hal, c0, hmx, wq]
        refine ⟨l.length - (a + q), by omega, a + q, T ++ [tokOf l a (s a)], rfl, by omega, by simp [e0], by simp [e9], by simp, ?_, ?_⟩
        · rw [hg, List.append_assoc, lT_fuel l s f (l.length - (a + q)) (a + q) (by omega) (by omega)]; rfl
        · simpa using H
      · rw [show l.length - a = 0 by omega, lT, List.append_nil] at hg
        simp [e0, e15, hS, hL]
        refine ite_r (t := false) (by simp; omega) (fun h => by cases h) (fun _ => ?_)
        simp
        rw [hg]
        exact ((H.drop 0).drop 0).drop 0

end Go.Proofs.YtfanamibkgkaiaaDoor.VG
