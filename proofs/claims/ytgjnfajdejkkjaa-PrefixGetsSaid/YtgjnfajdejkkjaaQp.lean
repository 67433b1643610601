/-
  The law that no word begins another one: its walk.
-/
import Derived.Test.YtgjnfajdejkkjaaQo
namespace Go.Proofs.Ytgjnfajdejkkjaa.VG
open Go
set_option linter.unusedSimpArgs false
set_option linter.unusedVariables false
set_option maxRecDepth 20000

set_option maxHeartbeats 8000000 in
theorem papart_law {F : Nat → Prop} {w : World} {v : Value} {l : List Int} (hr : Rd F w v l.length (intsV l)) (hlm : l.length ≤ maxLen) :
    Calls Try.prog 4 [v].toArray w (Ret fun r w' => r = .bool true ∧ Mod none' w w') := by
  refine F_sound c4 (by simp [fc4]) ?_
  obtain ⟨hS, hL⟩ := hr.sl
  simp [fc4, s4]
  refine callm known_c (by simp) ?_
  intro w1 M1
  have H := Hp.ofMod M1
  simp
  refine ite_r (t := false) (by simp) (fun h => by cases h) (fun _ => ?_)
  simp [hS, hL]
  by_cases hbig : l.length ≤ 60
  · refine ite_r (t := false) (by simp; omega) (fun h => by cases h) (fun _ => ?_)
    simp
    refine call_h (codes_c (hr.at H.mod) (by omega)) (by simp) ?_
    rintro r w2 ⟨vc, rfl, HC⟩
    replace H := H.join HC
    replace H : Hp w w2 [.own 33 1 vc (codesP l).length (wdsV (codesP l))] := H
    simp
    refine callp (full_c (hr.at H.mod) (by omega)) (by simp) ?_
    obtain ⟨cS, cL⟩ := (H.rd 0 rfl).sl
    by_cases hf : fullB l = true
    · have hcl : (cdW l).length = l.length := cdN_len l _
      have hall := (full_parts hf).2.1
      have hok : ∀ i, i < l.length → 0 ≤ gi l i ∧ gi l i ≤ 24 := fun i hi => okLen_iff.1 (List.all_eq_true.1 hall _ (gi_mem l i hi))
      unfold codesP at H cL
      rw [if_pos hf, hcl] at H cL
      simp [erP, hf]
      refine ite_r (t := false) (by simp) (fun h => by cases h) (fun _ => ?_)
      simp
      refine ite_r (t := false) (by simp) (fun h => by cases h) (fun _ => ?_)
      simp [cS, cL, hS, hL]
      refine ite_r (t := false) (by simp) (fun h => by cases h) (fun _ => ?_)
      simp
      refine for_r l.length (fun i env' w' => env' 0 = v ∧ env' 3 = vc ∧ env' 5 = .int .i64 i ∧ Hp w w' [.own 33 1 vc l.length (wdsV (cdW l))]) ?_ ?_ ?_
      · exact ⟨by simp, by simp, by simp, H⟩
      · rintro i env w3 hi ⟨e0, e3, e5, H⟩
        have wi : IntKind.i64.wrap ((i : Int) + 1) = ((i + 1 : Nat) : Int) := by rw [wI (by omega) (by omega)]; omega
        have HD := H.drew
        have ca := (hr.at HD.mod).gi i hi
        have pa := hr.some (by omega)
        have cc := rdW (HD.rd 0 rfl) i (by omega)
        have pc := rdW_ptr (H.rd 0 rfl) (by omega)
        obtain ⟨o0, o1⟩ := hok i hi
        obtain ⟨c, hc, hfit⟩ := word_fits hf hi
        obtain ⟨n, hn⟩ : ∃ n : Nat, gi l i = n := ⟨(gi l i).toNat, by omega⟩
        rw [hn, Int.toNat_natCast] at hfit
        have un : IntKind.u64.wrap (n : Int) = n := wU (by omega) (by omega)
        have s1 : shr .u64 (c : Int) (n : Int) = 0 := by rw [shr_nat _ _ _ (by simp only [IntKind.bits]; omega), Nat.div_eq_of_lt hfit]; rfl
        rw [hn] at ca
        rw [hc] at cc
        simp at ca cc
        simp [e0, e5, hS, hL]
        refine ite_r (t := true) (by simp [hi]) (fun _ => ?_) (fun h => by cases h)
        simp [wp_blk, wp_draw, e0, e3, e5, hS, hL, cS, cL, pa, pc, ca, cc, hi, un, s1]
        refine ite_r (t := false) (by simp) (fun h => by cases h) (fun _ => ?_)
        simp
        refine for_r l.length (fun k env' w' => env' 0 = v ∧ env' 3 = vc ∧ env' 5 = .int .i64 i ∧ env' 6 = .int .i64 k ∧ Hp w w' [.own 33 1 vc l.length (wdsV (cdW l))]) ?_ ?_ ?_
        · exact ⟨by simp [e0], by simp [e3], by simp [e5], by simp, HD⟩
        · rintro k env w4 hk ⟨e0, e3, e5, e6, H⟩
          have wk : IntKind.i64.wrap ((k : Int) + 1) = ((k + 1 : Nat) : Int) := by rw [wI (by omega) (by omega)]; omega
          have HD := H.drew
          have ca := (hr.at HD.mod).gi i hi
          have cb := (hr.at HD.mod).gi k hk
          have cc := rdW (HD.rd 0 rfl) i (by omega)
          have cd := rdW (HD.rd 0 rfl) k (by omega)
          obtain ⟨q0, q1⟩ := hok k hk
          obtain ⟨d, hd, _⟩ := word_fits hf hk
          obtain ⟨m, hm⟩ : ∃ m : Nat, gi l k = m := ⟨(gi l k).toNat, by omega⟩
          rw [hn] at ca
          rw [hm] at cb
          rw [hc] at cc
          rw [hd] at cd
          simp at ca cb cc cd
          simp [e0, e6, hS, hL]
          refine ite_r (t := true) (by simp [hk]) (fun _ => ?_) (fun h => by cases h)
          by_cases hne : i = k
          · simp [wp_blk, wp_draw, e0, e3, e5, e6, hS, hL, cS, cL, pa, pc, ca, cb, cc, cd, hi, hk, hne]
            refine ite_r (t := false) (by simp) (fun h => by cases h) (fun _ => ?_)
            simp [e0, e3, e5, e6, wk]
            exact ⟨by omega, HD⟩
          · by_cases hn0 : 0 < n
            · by_cases hle : n ≤ m
              · have hap := words_apart hf hi hk hne (by omega) (by omega) hc hd
                rw [hn, hm, show ((m : Int) - n).toNat = m - n by omega] at hap
                have ws : IntKind.i64.wrap ((m : Int) - n) = ((m - n : Nat) : Int) := by rw [wI (by omega) (by omega)]; omega
                have us : IntKind.u64.wrap ((m - n : Nat) : Int) = ((m - n : Nat) : Int) := wU (by omega) (by omega)
                have s2 : shr .u64 (d : Int) ((m - n : Nat) : Int) = ((d / 2 ^ (m - n) : Nat) : Int) := shr_nat _ _ _ (by simp only [IntKind.bits]; omega)
                generalize hz : d / 2 ^ (m - n) = z at *
                simp [wp_blk, wp_draw, e0, e3, e5, e6, hS, hL, cS, cL, pa, pc, ca, cb, cc, cd, hi, hk, hne, hn0, hle, ws, us, s2]
                refine ite_r (t := false) (by simp [hap]; omega) (fun h => by cases h) (fun _ => ?_)
                simp [e0, e3, e5, e6, wk]
                exact HD
              · simp [wp_blk, wp_draw, e0, e3, e5, e6, hS, hL, cS, cL, pa, pc, ca, cb, cc, cd, hi, hk, hne, hn0, hle]
                refine ite_r (t := false) (by simp) (fun h => by cases h) (fun _ => ?_)
                simp [e0, e3, e5, e6, wk]
                exact HD
            · simp [wp_blk, wp_draw, e0, e3, e5, e6, hS, hL, cS, cL, pa, pc, ca, cb, cc, cd, hi, hk, hne, hn0]
              refine ite_r (t := false) (by simp) (fun h => by cases h) (fun _ => ?_)
              simp [e0, e3, e5, e6, wk]
              exact HD
        · rintro env w4 ⟨e0, e3, e5, e6, H⟩
          simp [e0, e6, hS, hL]
          refine ite_r (t := false) (by simp) (fun h => by cases h) (fun _ => ?_)
          simp [e0, e3, e5, wi]
          exact H
      · rintro env w3 ⟨e0, e3, e5, H⟩
        simp [e0, e5, hS, hL]
        refine ite_r (t := false) (by simp) (fun h => by cases h) (fun _ => ?_)
        simp
        exact H.mod
    · have hcl : (codesP l).length = 0 := by unfold codesP; rw [if_neg hf]; rfl
      rw [hcl] at cL
      simp [erP, hf]
      refine ite_r (t := false) (by simp) (fun h => by cases h) (fun _ => ?_)
      simp
      refine ite_r (t := true) (by simp) (fun _ => ?_) (fun h => by cases h)
      simp [cS, cL]
      exact H.mod
  · refine ite_r (t := true) (by simp; omega) (fun _ => ?_) (fun h => by cases h)
    simp
    exact H.mod

end Go.Proofs.Ytgjnfajdejkkjaa.VG
