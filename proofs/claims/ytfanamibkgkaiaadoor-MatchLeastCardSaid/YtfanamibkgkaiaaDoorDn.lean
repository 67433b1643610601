/-
  Match: the document's tokens of the least cost.
-/
import Derived.Test.YtfanamibkgkaiaaDoorDm
namespace Go.Proofs.YtfanamibkgkaiaaDoor.VG
open Go
set_option linter.unusedSimpArgs false
set_option linter.unusedVariables false
set_option maxRecDepth 20000

theorem sT_step {l : List Int} {lit cp : Int} {k : Nat} {v : Nat} (hv : v = sT l lit cp (k + 1) (l.length - (k + 1))) (n : Nat) : mapR (fun j => if j = l.length - (k + 1) then (v : Int) else (sT l lit cp k j : Int)) n = mapR (fun j => (sT l lit cp (k + 1) j : Int)) n := by
  apply mapR_congr
  intro j _
  by_cases hj : j = l.length - (k + 1)
  · rw [if_pos hj, hv, hj]
  · rw [if_neg hj, sT, if_neg hj]

def LInv2 (W : World) (v : Value) (l : List Int) (L : List (Int × Int × Int)) (s : Nat → Nat) (its : List It) (sv : Value) (m : Nat) (env' : Env) (w' : World) : Prop :=
  ∃ (a : Nat) (T : List (Int × Int × Int)), m = l.length - a ∧ a ≤ l.length + 64 ∧ env' 0 = v ∧ env' 8 = sv ∧ env' 15 = .int .i64 a ∧ L = T ++ lT l s (l.length - a) a ∧ Hp W w' (its ++ [.own 47 3 (env' 14) T.length (toksV T)])

set_option maxHeartbeats 16000000 in
theorem least2_c {G : Nat → Prop} {w : World} {v : Value} {l : List Int} (hr : Rd G w v l.length (intsV l)) (hl : l.length ≤ 100000) (lit cp : Int) :
    Calls Tryd.prog 30 [v, .int .i64 lit, .int .i64 cp].toArray w (Ret fun r w' => OwnT w w' r (leastI l lit cp)) := by
  refine F_sound c30 (by simp [fc30]) ?_
  obtain ⟨hS, hL⟩ := hr.sl
  simp [fc30, s30, hS, hL]
  by_cases hbad : leastBad lit cp = true
  · have hv : leastI l lit cp = [] := by rw [leastI, if_pos hbad]
    have hb' : ((lit < 1 ∨ 1048576 < lit) ∨ cp < 1) ∨ 1048576 < cp := by simpa [leastBad] using hbad
    rw [hv]
    refine ite_r (t := true) (by simp; omega) (fun _ => ?_) (fun h => by cases h)
    simp
    exact OwnT.nil (Mod.refl _ _)
  have hv : leastI l lit cp = leastL l lit cp := by rw [leastI, if_neg hbad]
  obtain ⟨⟨⟨h0, h1⟩, h2⟩, h3⟩ : ((1 ≤ lit ∧ lit ≤ 1048576) ∧ 1 ≤ cp) ∧ cp ≤ 1048576 := by simp [leastBad] at hbad; omega
  rw [hv]
  refine ite_r (t := false) (by simp; omega) (fun h => by cases h) (fun _ => ?_)
  simp
  have wL : IntKind.i64.wrap ((l.length : Int) + 1) = ((l.length + 1 : Nat) : Int) := by rw [wI (by omega) (by omega)]; omega
  obtain ⟨n1, hn1⟩ : ∃ n1, n1 = l.length + 1 := ⟨_, rfl⟩
  rw [← hn1] at wL
  refine sq_r (fun env' w' => env' 0 = v ∧ env' 1 = .int .i64 lit ∧ env' 2 = .int .i64 cp ∧ ∃ cv sv, env' 7 = cv ∧ env' 8 = sv ∧ Hp w w' [.own 3 1 cv n1 (intsV (List.replicate n1 0)), .own 3 1 sv n1 (intsV (List.replicate n1 0))]) ?_ ?_
  · have H := (Hp.nil w).drew
    simp [hS, hL]
    refine wp_alt ?_ ?_
    · refine mkN_h slTI (kl := .i64) (kc := .i64) (n := n1) (xs := intsV (List.replicate n1 0)) H (by simp [hS, hL, wL]) (by simp [hS, hL, wL]) (by omega) (by unfold maxLen; omega) (fun z hz => by rw [zero64 hz, intsV_zeros]) ?_
      intro cv w1 H M1
      refine ⟨.inl rfl, ?_⟩
      simp
      refine mkN_h slTI (kl := .i64) (kc := .i64) (n := n1) (xs := intsV (List.replicate n1 0)) H (by simp [hS, hL, wL]) (by simp [hS, hL, wL]) (by omega) (by unfold maxLen; omega) (fun z hz => by rw [zero64 hz, intsV_zeros]) ?_
      intro sv w2 H M2
      refine ⟨.inl rfl, ?_⟩
      exact ⟨rfl, rfl, rfl, H⟩
    · refine mkN_h slTI (kl := .i64) (kc := .i64) (n := n1) (xs := intsV (List.replicate n1 0)) H (by simp [hS, hL, wL]) (by simp [hS, hL, wL]) (by omega) (by unfold maxLen; omega) (fun z hz => by rw [zero64 hz, intsV_zeros]) ?_
      intro sv w1 H M1
      refine ⟨.inl rfl, ?_⟩
      refine mkN_h slTI (kl := .i64) (kc := .i64) (n := n1) (xs := intsV (List.replicate n1 0)) H (by simp [hS, hL, wL]) (by simp [hS, hL, wL]) (by omega) (by unfold maxLen; omega) (fun z hz => by rw [zero64 hz, intsV_zeros]) ?_
      intro cv w2 H M2
      refine ⟨.inl rfl, ?_⟩
      exact ⟨rfl, rfl, rfl, H.perm (List.Perm.swap ..)⟩
  rintro env w3 ⟨e0, e1, e2, cv, sv, e7, e8, H⟩
  rw [mapR_zero] at H
  have w1' : IntKind.i64.wrap ((l.length : Int) - 1) = (l.length : Int) - 1 := wI (by omega) (by omega)
  simp [e0, hS, hL, w1']
  refine for_r l.length (fun k env' w' => env' 0 = v ∧ env' 1 = .int .i64 lit ∧ env' 2 = .int .i64 cp ∧ env' 7 = cv ∧ env' 8 = sv ∧ env' 9 = .int .i64 ((l.length : Int) - 1 - k) ∧
    Hp w w' [.own 3 1 cv n1 (intsV (mapR (cT l lit cp k) n1)), .own 3 1 sv n1 (intsV (mapR (fun j => (sT l lit cp k j : Int)) n1))]) ?_ ?_ ?_
  · simp [e0, e1, e2, e7, e8]
    exact H
  · clear H e0 e1 e2 e7 e8
    rintro k env w4 hk ⟨e0, e1, e2, e7, e8, e9, H⟩
    obtain ⟨a, ha⟩ : ∃ a, a = l.length - (k + 1) := ⟨_, rfl⟩
    have hal : a < l.length := by omega
    have e9' : env 9 = .int .i64 (a : Int) := by rw [e9]; congr 1; omega
    have wk : IntKind.i64.wrap ((a : Int) - 1) = (l.length : Int) - 1 - (k + 1) := by rw [wI (by omega) (by omega)]; omega
    have wa : IntKind.i64.wrap ((a : Int) + 1) = ((a + 1 : Nat) : Int) := by rw [wI (by omega) (by omega)]; omega
    have hcb := cT_bd (l := l) (lit := lit) (cp := cp) h0 h1 h2 h3 k
    obtain ⟨c0, hc0⟩ : ∃ c0, c0 = cT l lit cp k (a + 1) + lit := ⟨_, rfl⟩
    have wc0 : IntKind.i64.wrap (lit + cT l lit cp k (a + 1)) = c0 := by have := hcb (a + 1); rw [wI (by omega) (by omega), hc0]; omega
    obtain ⟨cS, cL⟩ := (H.rd 0 rfl).sl
    obtain ⟨sS, sL⟩ := (H.rd 1 rfl).sl
    have cp1 := (H.rd 0 rfl).some (by rw [mapR_len]; omega)
    have sp1 := (H.rd 1 rfl).some (by rw [mapR_len]; omega)
    obtain ⟨f, hf⟩ : ∃ f : Nat → Int, f = fun n => cT l lit cp k (a + n) + cp := ⟨_, rfl⟩
    have hfr : ∀ n, 0 ≤ f n ∧ f n ≤ 1048576 * 100000 + 1048576 := fun n => by rw [hf]; have := hcb (a + n); simp only []; omega
    have hNr := roomN_room (l := l) (a := a) (by omega)
    have hN64 := roomN_le l a
    have hal1 : a < n1 := by omega
    have haL : (a : Int) < (n1 : Int) := by omega
    have ha1 : a + 1 < n1 := by omega
    have hs0 : sT l lit cp k a = 0 := sT_low k a (by omega)
    simp [e9']
    refine ite_r (t := true) (by simp) (fun _ => ?_) (fun h => by cases h)
    simp [wp_blk]
    refine callm (long2_c (hr.at H.mod) (by omega) a) (by simp [e0, e9']) ?_
    intro w5 M5
    replace H := H.same M5
    rw [longI_nat hal]
    obtain ⟨n, hn⟩ : ∃ n, n = (longN l a).1 := ⟨_, rfl⟩
    have hnN : (n = 0 ∧ roomN l a < 3) ∨ (n = roomN l a ∧ 3 ≤ n) := by
      rw [hn, longN]
      by_cases h : (lgT l a (min a 1024)).1 < 3
      · rw [if_pos h]; exact .inl ⟨rfl, h⟩
      · rw [if_neg h]; exact .inr ⟨rfl, by omega⟩
    have hfin : fin2 (db f n (n - 2)) c0 = bp f c0 (roomN l a) := by
      rcases hnN with ⟨h, h'⟩ | ⟨h, h'⟩
      · rw [h]; exact fin_zero f c0 _ h'
      · rw [← h]; exact fin_bp (fun n => (hfr n).1) h'
    have hct : (bp f c0 (roomN l a)).1 = cT l lit cp (k + 1) a := by rw [cT, if_pos ha, ← ha, hf, hc0]
    have hst : (bp f c0 (roomN l a)).2 = sT l lit cp (k + 1) a := by rw [sT, if_pos ha, ← ha, ← hf, ← hc0]
    have hn64 : n ≤ 64 := by omega
    have hroom : a + n ≤ l.length := by omega
    simp [two]
    rw [← hn]
    have hdb0 : db f n 0 = (-1, 0) := rfl
    refine for_r (n - 2) (fun i env' w' => env' 0 = v ∧ env' 1 = .int .i64 lit ∧ env' 2 = .int .i64 cp ∧ env' 7 = cv ∧ env' 8 = sv ∧ env' 9 = .int .i64 a ∧ env' 12 = .int .i64 (db f n i).1 ∧ env' 13 = .int .i64 ((n : Int) - i) ∧
      Hp w w' [.own 3 1 cv n1 (intsV (mapR (cT l lit cp k) n1)), .own 3 1 sv n1 (intsV (mapR (fun j => if j = a then ((db f n i).2 : Int) else (sT l lit cp k j : Int)) n1))]) ?_ ?_ ?_
    · refine ⟨by simp [e0], by simp [e1], by simp [e2], by simp [e7], by simp [e8], by simp [e9'], by simp [db], by simp, ?_⟩
      have : mapR (fun j => if j = a then ((db f n 0).2 : Int) else (sT l lit cp k j : Int)) n1 = mapR (fun j => (sT l lit cp k j : Int)) n1 := mapR_congr fun j _ => by
        by_cases hj : j = a
        · rw [if_pos hj, hj, hs0]; rfl
        · rw [if_neg hj]
      rw [this]
      exact H
    · clear H e0 e1 e2 e7 e8 e9 e9'
      rintro i env w6 hi ⟨e0, e1, e2, e7, e8, e9, e12, e13, H⟩
      obtain ⟨q, hq⟩ : ∃ q, q = n - i := ⟨_, rfl⟩
      have e13' : env 13 = .int .i64 (q : Int) := by rw [e13]; congr 1; omega
      have wq : IntKind.i64.wrap ((q : Int) - 1) = (n : Int) - (i + 1) := by rw [wI (by omega) (by omega)]; omega
      have waq : IntKind.i64.wrap ((a : Int) + q) = ((a + q : Nat) : Int) := by rw [wI (by omega) (by omega)]; omega
      have hfq : f q = cT l lit cp k (a + q) + cp := by rw [hf]
      have wf : IntKind.i64.wrap (cp + cT l lit cp k (a + q)) = f q := by have := hfr q; rw [hfq] at this ⊢; rw [wI (by omega) (by omega)]; omega
      have cc := (H.rd 0 rfl).gi (a + q) (by rw [mapR_len]; omega)
      rw [mapR_gi _ _ _ (by omega)] at cc
      have haq : a + q < n1 := by omega
      have hstep : db f n (i + 1) = if (db f n i).1 < 0 ∨ f q < (db f n i).1 then (f q, q) else db f n i := by rw [db, hq]
      generalize hp : db f n i = p at *
      simp [e13']
      refine ite_r (t := true) (by simp; omega) (fun _ => ?_) (fun h => by cases h)
      have keep : (p.1 < 0 ∨ f q < p.1) ∨ ¬ (p.1 < 0 ∨ f q < p.1) := Decidable.em _
      rcases keep with htake | hkeep
      · rw [if_pos htake] at hstep
        simp [-Int.natCast_add, wp_blk, e2, e7, e9, e12, e13', waq, cS, cL, cp1, cc, haq, wf]
        refine ite_r (t := true) (by simp; omega) (fun _ => ?_) (fun h => by cases h)
        simp [-Int.natCast_add, e2, e7, e8, e9, e13', waq, cS, cL, cp1, cc, haq, wf, sS, sL, sp1, hal1, haL]
        refine set_h 1 H rfl (i := a) (u := .int .i64 (q : Int)) hal1 (by simp [e8, e9, sS, sL, sp1, haL]) (by simp [e13']) (by simp) ?_
        intro w7 H
        refine ⟨.inl rfl, ?_⟩
        simp only [List.set_cons_succ, List.set_cons_zero] at H
        rw [intsV_put, mapR_set] at H
        have hcm : (fun j => if j = a then (q : Int) else if j = a then ((p.2 : Nat) : Int) else (sT l lit cp k j : Int)) = (fun j => if j = a then (((db f n (i + 1)).2 : Nat) : Int) else (sT l lit cp k j : Int)) := by
          funext j
          by_cases hj : j = a
          · rw [if_pos hj, if_pos hj, hstep]
          · rw [if_neg hj, if_neg hj, if_neg hj]
        rw [hcm] at H
        have hs1 : (db f n (i + 1)).1 = f q := by rw [hstep]
        simp [e0, e1, e2, e7, e8, e9, e13', wq, hs1]
        exact H
      · rw [if_neg hkeep] at hstep
        have k1 : ¬ p.1 < 0 := fun h => hkeep (.inl h)
        have k2 : ¬ f q < p.1 := fun h => hkeep (.inr h)
        simp [-Int.natCast_add, wp_blk, e2, e7, e9, e12, e13', waq, cS, cL, cp1, cc, haq, wf]
        refine ite_r (t := false) (by simp; omega) (fun h => by cases h) (fun _ => ?_)
        simp [e0, e1, e2, e7, e8, e9, e12, e13', wq, hstep]
        exact H
    · clear H e0 e1 e2 e7 e8 e9 e9'
      rintro env w6 ⟨e0, e1, e2, e7, e8, e9, e12, e13, H⟩
      have cc := (H.rd 0 rfl).gi (a + 1) (by rw [mapR_len]; omega)
      rw [mapR_gi _ _ _ (by omega)] at cc
      rw [← hfin] at hct hst
      generalize hp : db f n (n - 2) = p at *
      simp [e13]
      refine ite_r (t := false) (by simp; omega) (fun h => by cases h) (fun _ => ?_)
      rcases Decidable.em (p.1 < 0 ∨ c0 < p.1) with htake | hkeep
      · rw [fin2, if_pos htake] at hct hst
        simp [-Int.natCast_add, e1, e7, e9, e12, wa, cS, cL, cp1, cc, ha1, wc0]
        refine ite_r (t := true) (by simp; omega) (fun _ => ?_) (fun h => by cases h)
        simp [-Int.natCast_add, e1, e7, e8, e9, wa, cS, cL, cp1, cc, ha1, wc0, sS, sL, sp1, hal1, haL]
        refine set_h 1 H rfl (i := a) (u := .int .i64 0) hal1 (by simp [e8, e9, sS, sL, sp1, haL]) (by simp) (by simp) ?_
        intro w7 H
        refine ⟨.inl rfl, ?_⟩
        simp only [List.set_cons_succ, List.set_cons_zero] at H
        rw [intsV_put, mapR_set] at H
        simp [-Int.natCast_add, e7, e9, cS, cL, cp1, hal1, haL]
        refine set_h 0 H rfl (i := a) (u := .int .i64 c0) hal1 (by simp [e7, e9, cS, cL, cp1, haL]) (by simp) (by simp) ?_
        intro w8 H
        refine ⟨.inl rfl, ?_⟩
        simp only [List.set_cons_succ, List.set_cons_zero] at H
        rw [intsV_put, mapR_set] at H
        have e1' : mapR (fun j => if j = a then c0 else cT l lit cp k j) n1 = mapR (cT l lit cp (k + 1)) n1 := by rw [ha]; exact cT_step (by rw [← ha]; exact hct) _
        have e2' : mapR (fun j => if j = a then 0 else if j = a then ((p.2 : Nat) : Int) else (sT l lit cp k j : Int)) n1 = mapR (fun j => (sT l lit cp (k + 1) j : Int)) n1 := by
          rw [← sT_step (v := 0) (by rw [← ha]; exact hst), ← ha]
          apply mapR_congr
          intro j _
          by_cases hj : j = a
          · rw [if_pos hj, if_pos hj]; rfl
          · rw [if_neg hj, if_neg hj, if_neg hj]
        rw [e1', e2'] at H
        simp [e0, e1, e2, e7, e8, e9, wk]
        exact H
      · rw [fin2, if_neg hkeep] at hct hst
        have k1 : ¬ p.1 < 0 := fun h => hkeep (.inl h)
        have k2 : ¬ c0 < p.1 := fun h => hkeep (.inr h)
        simp [-Int.natCast_add, e1, e7, e9, e12, wa, cS, cL, cp1, cc, ha1, wc0]
        refine ite_r (t := false) (by simp; omega) (fun h => by cases h) (fun _ => ?_)
        simp [-Int.natCast_add, e7, e9, e12, cS, cL, cp1, hal1, haL]
        refine set_h 0 H rfl (i := a) (u := .int .i64 p.1) hal1 (by simp [e7, e9, cS, cL, cp1, haL]) (by simp [e12]) (by simp) ?_
        intro w8 H
        refine ⟨.inl rfl, ?_⟩
        simp only [List.set_cons_succ, List.set_cons_zero] at H
        rw [intsV_put, mapR_set] at H
        have e1' : mapR (fun j => if j = a then p.1 else cT l lit cp k j) n1 = mapR (cT l lit cp (k + 1)) n1 := by rw [ha]; exact cT_step (by rw [← ha]; exact hct) _
        have e2' : mapR (fun j => if j = a then ((p.2 : Nat) : Int) else (sT l lit cp k j : Int)) n1 = mapR (fun j => (sT l lit cp (k + 1) j : Int)) n1 := by rw [ha]; exact sT_step (by rw [← ha]; exact hst) _
        rw [e1', e2'] at H
        simp [e0, e1, e2, e7, e8, e9, wk]
        exact H
  · clear H e0 e1 e2 e7 e8
    rintro env w4 ⟨e0, e1, e2, e7, e8, e9, H⟩
    simp [e9]
    refine ite_r (t := false) (by simp; omega) (fun h => by cases h) (fun _ => ?_)
    simp
    obtain ⟨sS, sL⟩ := (H.rd 1 rfl).sl
    replace H := H.nilS (e := 47) (size := 3)
    obtain ⟨s, hs⟩ : ∃ s : Nat → Nat, s = sT l lit cp l.length := ⟨_, rfl⟩
    have hLs : leastL l lit cp = lT l s l.length 0 := by rw [hs]; rfl
    have hs64 : ∀ j, s j ≤ 64 := fun j => by rw [hs]; exact sT_le _ _
    have hsr : ∀ j, s j = 0 ∨ (3 ≤ s j ∧ s j ≤ roomN l j) := fun j => by rw [hs]; exact sT_room _ _
    rw [hLs]
    obtain ⟨LL, hLL⟩ : ∃ LL, LL = lT l s l.length 0 := ⟨_, rfl⟩
    rw [← hLL]
    have hTlen := lT_len l s l.length 0
    rw [← hLL] at hTlen
    have hsm : (fun j => (sT l lit cp l.length j : Int)) = fun j => (s j : Int) := by rw [hs]
    rw [hsm] at H
    refine loop_r (LInv2 w v l LL s [.own 3 1 cv n1 (intsV (mapR (cT l lit cp l.length) n1)), .own 3 1 sv n1 (intsV (mapR (fun j => (s j : Int)) n1))] sv) l.length ?_ ?_
    · exact ⟨0, [], rfl, by omega, by simp [e0], by simp [e8], by simp, hLL, H⟩
    · clear H e0 e1 e2 e7 e8 e9
      rintro m env w5 ⟨a, T, rfl, ha, e0, e8, e15, hg, H⟩
      have hTl : T.length ≤ l.length := by rw [hg, List.length_append] at hTlen; omega
      by_cases hal : a < l.length
      · have sc := (H.rd 1 rfl).gi a (by rw [mapR_len]; omega)
        rw [mapR_gi _ _ _ (by omega)] at sc
        have sp1 := (H.rd 1 rfl).some (by rw [mapR_len]; omega)
        have haL : (a : Int) < (n1 : Int) := by omega
        have hal1 : a < n1 := by omega
        have hsa := hs64 a
        obtain ⟨f, hf⟩ : ∃ f, l.length - a = f + 1 := ⟨l.length - a - 1, by omega⟩
        rw [hf, lT, if_pos hal] at hg
        generalize hrv : env 14 = rv at *
        simp [e0, e15, hS, hL]
        refine ite_r (t := true) (by simp; omega) (fun _ => ?_) (fun h => by cases h)
        simp [wp_blk, e8, e15, sS, sL, sp1, hal1, sc]
        by_cases hz : s a = 0
        · rw [hz, show max 0 1 = 1 from rfl] at hg
          have hrl := (hr.at H.mod).gi a hal
          have hrp := hr.some (by omega)
          have w1 : IntKind.i64.wrap ((a : Int) + 1) = ((a + 1 : Nat) : Int) := by rw [wI (by omega) (by omega)]; omega
          refine ite_r (t := true) (by simp [hz]) (fun _ => ?_) (fun h => by cases h)
          simp [e0, e15, hS, hL, hal, hrp, hrl, Value.cells]
          refine appN_h slTT 2 H rfl (u := tokV (0, 0, gi l a)) (by omega) rfl (tokC_one _) (by omega) (by unfold maxLen; omega) (by simp [tokV, putAt, Value.cells]) (by simp [hrv]) (by simp) (.inl rfl) ?_
          intro vb v' w6 w7 _ H
          refine ⟨.inl rfl, ?_⟩
          simp only [List.cons_append, List.nil_append, List.set_cons_succ, List.set_cons_zero] at H
          rw [tokV_cells, toksV_snoc] at H
          simp [-Int.natCast_add, e15, w1]
          refine ⟨f, by omega, a + 1, T ++ [(0, 0, gi l a)], by omega, by omega, by simp [e0], by simp [e8], by simp, ?_, ?_⟩
          · rw [hg, List.append_assoc, lT_fuel l s f (l.length - (a + 1)) (a + 1) (by omega) (by omega)]; rfl
          · simpa using H
        · obtain ⟨h3, hrm⟩ : 3 ≤ s a ∧ s a ≤ roomN l a := by
            rcases hsr a with h | h
            · exact absurd h hz
            · exact h
          have htok : tokOf l a (s a) = ((s a : Int), (fdT l a (min a 1024) (s a) : Int), 0) := by rw [tokOf, if_neg hz]
          have hmx1 : max (s a) 1 = s a := by omega
          rw [htok, hmx1] at hg
          have hz' : ¬ (s a : Int) = 0 := by omega
          have wq : IntKind.i64.wrap ((a : Int) + s a) = ((a + s a : Nat) : Int) := by rw [wI (by omega) (by omega)]; omega
          refine ite_r (t := false) (by simp [hz]) (fun h => by cases h) (fun _ => ?_)
          replace H := H.drew
          have sc1 := (H.rd 1 rfl).gi a (by rw [mapR_len]; omega)
          rw [mapR_gi _ _ _ (by omega)] at sc1
          have sc1' := sc1
          simp only [cell_drew] at sc1
          simp [e8, e15, sS, sL, sp1, hal1, sc1]
          refine call_r _ (leastD_c (hr.at H.mod) (by omega) a (s a) hal (by omega) hrm) (by simp [e0, e15]) ?_
          rintro r w6 ⟨rfl, M6⟩
          replace H := H.same M6
          have sc2 := (H.rd 1 rfl).gi a (by rw [mapR_len]; omega)
          rw [mapR_gi _ _ _ (by omega)] at sc2
          refine ⟨?_, ?_⟩
          · simp [promOk, e8, e15]
            exact same_one sc1' sc2
          simp [Value.cells, putAt]
          refine appN_h slTT 2 H rfl (u := tokV ((s a : Int), (fdT l a (min a 1024) (s a) : Int), 0)) (by omega) rfl (tokC_one _) (by omega) (by unfold maxLen; omega) (by simp [tokV, putAt, Value.cells]) (by simp [hrv]) (by simp) (.inl rfl) ?_
          intro vb v' w7 w8 _ H
          refine ⟨.inl rfl, ?_⟩
          simp only [List.cons_append, List.nil_append, List.set_cons_succ, List.set_cons_zero] at H
          rw [tokV_cells, toksV_snoc] at H
          have sc := (H.rd 1 rfl).gi a (by rw [mapR_len]; omega)
          rw [mapR_gi _ _ _ (by omega)] at sc
          simp [-Int.natCast_add, e8, e15, sS, sL, sp1, hal1, sc, wq]
          refine ⟨l.length - (a + s a), by omega, a + s a, T ++ [((s a : Int), (fdT l a (min a 1024) (s a) : Int), 0)], rfl, by omega, by simp [e0], by simp [e8], by simp, ?_, ?_⟩
          · rw [hg, List.append_assoc, lT_fuel l s f (l.length - (a + s a)) (a + s a) (by omega) (by omega)]; rfl
          · simpa using H
      · rw [show l.length - a = 0 by omega, lT, List.append_nil] at hg
        simp [e0, e15, hS, hL]
        refine ite_r (t := false) (by simp; omega) (fun h => by cases h) (fun _ => ?_)
        simp
        rw [hg]
        exact (H.drop 0).drop 0

end Go.Proofs.YtfanamibkgkaiaaDoor.VG
