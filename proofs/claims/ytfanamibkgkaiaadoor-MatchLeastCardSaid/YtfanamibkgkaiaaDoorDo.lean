/-
  Match: a row in which much was there before; the law of what is found.
-/
import Derived.Test.YtfanamibkgkaiaaDoorDn
namespace Go.Proofs.YtfanamibkgkaiaaDoor.VG
open Go
set_option linter.unusedSimpArgs false
set_option linter.unusedVariables false
set_option maxRecDepth 20000

theorem Rd.cells1 {F : Nat → Prop} {w : World} {v : Value} {n : Nat} {xs : List Value} (h : Rd F w v n xs) : v.cells = #[v] := by obtain ⟨cap, hv⟩ := h.is; rw [hv]; rfl
def RInv (w : World) (t : Nat) (v : Value) (N : Nat) (n : Nat) (m : Nat) (env' : Env) (w' : World) : Prop :=
  ∃ p : List Int, m = n - p.length ∧ p.length ≤ n + 20 ∧ env' 0 = .pointer (some ⟨t, 0, none⟩) ∧ env' 6 = .int .i64 n ∧ Hp (bare w) w' [.tp t v N, .old w (fun k => k = t), .own 3 1 (env' 5) p.length (intsV p)]

set_option maxHeartbeats 8000000 in
theorem mrow_c {G : Nat → Prop} {w : World} {t : Nat} {v : Value} {l : List Int} (h : Tp w t v l.length) (hr : Rd G w v l.length (intsV l)) (hg : ¬ G t) (hl : l.length ≤ maxLen) (most : Nat) (hm : most ≤ 100000) :
    Calls Tryd.prog 13 [.pointer (some ⟨t, 0, none⟩), .int .i64 most].toArray w (Ret fun r w' => ∃ p : List Int, p.length ≤ most + 20 ∧ TpA w t v l.length w' ∧ ∃ Gs, Sep w.heap.size w' [.own 3 1 r p.length (intsV p)] Gs) := by
  refine F_sound c13 (by simp [fc13]) ?_
  have H := Hp.openG h
  have wm : IntKind.i64.wrap ((most : Int) + 1) = (most : Int) + 1 := wI (by omega) (by omega)
  simp [fc13, s13]
  refine call_h (next_c h hr hg hl ((most : Int) + 1) (by omega)) (by simp [wm]) ?_
  rintro r w1 ⟨nn, rfl, k0, k1, A⟩
  obtain ⟨_, _, _, up⟩ := H.tp 0 rfl
  replace H := up _ A
  have k1' := k1 (by omega)
  obtain ⟨n, rfl⟩ : ∃ n : Nat, nn = n := ⟨nn.toNat, by omega⟩
  have hnm : n ≤ most := by omega
  have hrd : ∀ (p : List It) (w' : World), Hp (bare w) w' (.tp t v l.length :: .old w (fun k => k = t) :: p) → Tp w' t v l.length ∧ Rd G w' v l.length (intsV l) := by
    intro p w' H
    obtain ⟨hT, _, _, _⟩ := H.tp 0 rfl
    exact ⟨hT, hr.mod (H.shutG tp_only).2.1 (fun k hk hk' => hg (hk' ▸ hk))⟩
  simp
  replace H : Hp (bare w) w1 [.tp t v l.length, .old w (fun k => k = t), .own 3 1 (.slice none 0 0) 0 []] := H.nilS
  refine loop_r (RInv w t v l.length n) n ?_ ?_
  · exact ⟨[], rfl, by simp, by simp, by simp, H⟩
  · clear H A k1 k1' up wm
    rintro m env w2 ⟨p, rfl, hp, e0, e6, H⟩
    obtain ⟨rS, rL⟩ := (H.rd 2 rfl).sl
    by_cases hlt : p.length < n
    · generalize hrv : env 5 = rv at *
      simp [e6, hrv, rS, rL]
      refine ite_r (t := true) (by simp [hlt]) (fun _ => ?_) (fun h => by cases h)
      simp [wp_blk, hrv, rS, rL]
      refine ifg_cut (fun env' w' => env' 0 = .pointer (some ⟨t, 0, none⟩) ∧ env' 5 = rv ∧ env' 6 = .int .i64 n ∧ env' 20 = .bool (decide (0 < p.length)) ∧ (0 < p.length → ∃ k, env' 22 = .int .i64 k) ∧ Hp (bare w) w' [.tp t v l.length, .old w (fun k => k = t), .own 3 1 rv p.length (intsV p)]) (t := decide (0 < p.length)) ?_ ?_ ?_ ?_
      · simp
      · intro _
        obtain ⟨hT, hR⟩ := hrd _ _ H
        obtain ⟨_, _, _, up⟩ := H.tp 0 rfl
        refine call_h (next_c hT hR hg hl 3 (by omega)) (by simp [e0]) ?_
        rintro r w3 ⟨k, rfl, _, _, A⟩
        replace H := up _ A
        simp [e0, e6, hrv]
        exact H
      · intro hno
        have hz : ¬ 0 < p.length := by simpa using hno
        simp [e0, e6, hrv]
        exact ⟨fun h => absurd h hz, H⟩
      clear H e0 e6
      rintro env w3 ⟨e0, e5, e6, e20, e22, H⟩
      have hev : ∃ tt : Bool, (tt = true → 0 < p.length) ∧ (E.gd (.vr 20) true (.bn (.cm .gtr .i64) (.vr 22) (.cn (.int .i64 0)))).ok env w3 ∧ (E.and (.vr 20) (.bn (.cm .gtr .i64) (.vr 22) (.cn (.int .i64 0)))).ok env w3 ∧ (E.and (.vr 20) (.bn (.cm .gtr .i64) (.vr 22) (.cn (.int .i64 0)))).ev env w3 = .bool tt := by
        by_cases hz : 0 < p.length
        · obtain ⟨k, hk⟩ := e22 hz
          exact ⟨decide (0 < k), fun _ => hz, by simp [e20, hk], by simp [e20, hk], by simp [e20, hk, hz]⟩
        · exact ⟨false, (fun h => by cases h), by simp [e20, hz], by simp [e20, hz], by simp [e20, hz]⟩
      obtain ⟨tt, ht0, ht1, ht2, ht3⟩ := hev
      refine chk_s ht1 ?_
      refine chk_s ht2 ?_
      refine set_s ht3 ?_
      refine ite_cut (fun env' w' => env' 0 = .pointer (some ⟨t, 0, none⟩) ∧ env' 6 = .int .i64 n ∧ ∃ p' : List Int, p.length < p'.length ∧ p'.length ≤ p.length + 20 ∧ Hp (bare w) w' [.tp t v l.length, .old w (fun k => k = t), .own 3 1 (env' 5) p'.length (intsV p')]) (t := tt) (by simp) ?_ ?_ ?_
      · intro htt
        have hz := ht0 htt
        obtain ⟨rS, rL⟩ := (H.rd 2 rfl).sl
        have hmn : (if 40 < (p.length : Int) then (40 : Int) else p.length) = ((min p.length 40 : Nat) : Int) := by split <;> omega
        obtain ⟨hT, hR⟩ := hrd _ _ H
        obtain ⟨_, _, _, up⟩ := H.tp 0 rfl
        simp [e5, rS, rL]
        refine call_h (next_c hT hR hg hl ((min p.length 40 : Nat) : Int) (by omega)) (by simp [e0, e5, rS, rL, hmn]) ?_
        rintro r w4 ⟨x, rfl, x0, x1, A⟩
        replace H := up _ A
        have x1' := x1 (by omega)
        obtain ⟨d, hd⟩ : ∃ d : Nat, 1 + x = d := ⟨(1 + x).toNat, by omega⟩
        have wd : IntKind.i64.wrap (1 + x) = (d : Int) := by rw [wI (by omega) (by omega)]; omega
        obtain ⟨hT, hR⟩ := hrd _ _ H
        obtain ⟨_, _, _, up⟩ := H.tp 0 rfl
        simp [wd]
        refine call_h (next_c hT hR hg hl 20 (by omega)) (by simp [e0]) ?_
        rintro r w5 ⟨y, rfl, y0, y1, A2⟩
        replace H := up _ A2
        have y1' := y1 (by omega)
        obtain ⟨q, rfl⟩ : ∃ q : Nat, y = q := ⟨y.toNat, by omega⟩
        simp
        refine for_r (q + 1) (fun i env' w' => env' 0 = .pointer (some ⟨t, 0, none⟩) ∧ env' 6 = .int .i64 n ∧ env' 7 = .int .i64 d ∧ env' 8 = .int .i64 ((q : Int) - i) ∧ ∃ p' : List Int, p'.length = p.length + i ∧ Hp (bare w) w' [.tp t v l.length, .old w (fun k => k = t), .own 3 1 (env' 5) p'.length (intsV p')]) ?_ ?_ ?_
        · refine ⟨by simp [e0], by simp [e6], by simp, by simp, p, rfl, ?_⟩
          have : env 5 = rv := e5
          simpa [this] using H
        · clear H A A2 up hT hR e0 e5 e6 e20 e22 ht1 ht2 ht3 ht0
          rintro i env w6 hi ⟨e0, e6, e7, e8, p', hp', H⟩
          have wi : IntKind.i64.wrap ((q : Int) - i - 1) = (q : Int) - (i + 1) := by rw [wI (by omega) (by omega)]; omega
          obtain ⟨z, hz'⟩ : ∃ z, z = p'.length - d := ⟨_, rfl⟩
          have wz : IntKind.i64.wrap ((p'.length : Int) - d) = (z : Int) := by rw [wI (by omega) (by omega)]; omega
          have hzl : z < p'.length := by omega
          obtain ⟨rS, rL⟩ := (H.rd 2 rfl).sl
          have rp := (H.rd 2 rfl).some (by omega)
          have rc := (H.rd 2 rfl).gi z hzl
          generalize hrv : env 5 = rv' at *
          simp [e8]
          refine ite_r (t := true) (by simp; omega) (fun _ => ?_) (fun h => by cases h)
          simp [wp_blk, e7, hrv, rS, rL, wz, hzl, rp, rc]
          refine app1_h slTI 2 H rfl (u := .int .i64 (gi p' z)) (by simp) (by omega) (by unfold maxLen; omega) (by simp) (by simp [hrv]) (by simp) (by simp) ?_
          intro vb v' w7 w8 H
          refine ⟨.inl rfl, ?_⟩
          simp only [List.set_cons_succ, List.set_cons_zero] at H
          rw [intsV_snoc] at H
          simp [e0, e6, e7, e8, wi]
          exact ⟨p' ++ [gi p' z], by simp; omega, by simpa using H⟩
        · clear H A A2 up hT hR e0 e5 e6 e20 e22 ht1 ht2 ht3 ht0
          rintro env w6 ⟨e0, e6, e7, e8, p', hp', H⟩
          simp [e8]
          refine ite_r (t := false) (by simp; omega) (fun h => by cases h) (fun _ => ?_)
          simp [e0, e6]
          exact ⟨p', by omega, by omega, H⟩
      · intro _
        obtain ⟨hT, hR⟩ := hrd _ _ H
        obtain ⟨_, _, _, up⟩ := H.tp 0 rfl
        refine call_h (next_c hT hR hg hl 4 (by omega)) (by simp [e0]) ?_
        rintro r w4 ⟨x, rfl, x0, x1, A⟩
        replace H := up _ A
        simp
        refine app1_h slTI 2 H rfl (u := .int .i64 x) (by simp) (by omega) (by unfold maxLen; omega) (by simp) (by simp [e5]) (by simp) (by simp) ?_
        intro vb v' w7 w8 H
        refine ⟨.inl rfl, ?_⟩
        simp only [List.set_cons_succ, List.set_cons_zero] at H
        rw [intsV_snoc] at H
        simp [e0, e6]
        exact ⟨p ++ [x], by simp, by simp, by simpa using H⟩
      · clear H e0 e5 e6 e20 e22 ht1 ht2 ht3 ht0
        rintro env w6 ⟨e0, e6, p', h1, h2, H⟩
        simp
        exact ⟨n - p'.length, by omega, p', rfl, by omega, e0, e6, H⟩
    · simp [e6, rS, rL]
      refine ite_r (t := false) (by simp; omega) (fun h => by cases h) (fun _ => ?_)
      simp
      obtain ⟨q1, q2, q3⟩ := H.shutG tp_only
      exact ⟨p, by omega, ⟨q1, q2⟩, q3⟩

end Go.Proofs.YtfanamibkgkaiaaDoor.VG
