/-
  The lengths that are handed back, and their law: what is met more often has no longer word.
-/
import Derived.Test.YtgjnfajdejkkjaaXe
import Derived.Test.YtgjnfajdejkkjaaQk
import Derived.Test.YtgjnfajdejkkjaaQl
namespace Go.Proofs.Ytgjnfajdejkkjaa.VG
open Go
set_option linter.unusedSimpArgs false
set_option linter.unusedVariables false
set_option maxRecDepth 20000

theorem lq_ok {freq : List Int} {most : Int} (h : lenE freq most = 0) : ∃ m : Nat, most = m ∧ 1 ≤ m ∧ m ≤ 24 ∧ 1 ≤ freq.length ∧ freq.length ≤ 1024 ∧ (∀ x ∈ freq, 0 ≤ x ∧ x ≤ 1099511627776) ∧ 1 ≤ (usd freq).length ∧ (usd freq).length ≤ 2 ^ m ∧
    lenQ freq most = if (usd freq).length = 1 then (List.replicate freq.length 0).set (gnn (usd freq) 0) 1 else lenP freq m := by
  have hq : lenQ freq most = if (usd freq).length = 1 then (List.replicate freq.length 0).set (gnn (usd freq) 0) 1 else lenP freq most.toNat := by unfold lenQ; rw [h]; rfl
  unfold lenE at h
  split at h
  · cases h
  rename_i h1
  split at h
  · cases h
  rename_i h2
  split at h
  · cases h
  rename_i h3
  rw [not_or, not_or, not_or, not_or] at h1
  obtain ⟨a, b, c, d, e⟩ := h1
  refine ⟨most.toNat, by omega, by omega, by omega, by omega, by omega, fun x hx => ?_, by omega, by omega, hq⟩
  have := List.all_eq_true.1 (by simpa using e : freq.all okF = true) x hx
  simpa [okF] using this
theorem one_of {freq : List Int} (h : (usd freq).length = 1) : gnn (usd freq) 0 < freq.length ∧ ∀ s, s < freq.length → (0 < gi freq s ↔ s = gnn (usd freq) 0) := by
  obtain ⟨x, hx⟩ := List.length_eq_one_iff.1 h
  have hm : ∀ s, s ∈ usd freq ↔ s = x := fun s => by rw [hx]; simp
  have e : gnn (usd freq) 0 = x := by rw [hx]; rfl
  rw [e]
  exact ⟨(usd_mem.1 ((hm x).2 rfl)).1, fun s hs => ⟨fun h0 => (hm s).1 (usd_mem.2 ⟨hs, h0⟩), fun h1 => (usd_mem.1 ((hm s).2 h1)).2⟩⟩
theorem one_gi {n t s : Nat} (ht : t < n) (hs : s < n) : gi ((List.replicate n 0).set t 1) s = if s = t then 1 else 0 := by
  by_cases h : s = t
  · subst h; simp [gi, hs]
  · rw [if_neg h]
    unfold gi
    rw [List.getD_eq_getElem?_getD, List.getElem?_set_ne (by omega)]
    simp [hs]

theorem lq_len {freq : List Int} {most : Int} (h : lenE freq most = 0) : (lenQ freq most).length = freq.length := by
  obtain ⟨m, rfl, _, _, _, _, _, _, _, e⟩ := lq_ok h
  rw [e]
  split
  · simp
  · exact lenP_len _ _
theorem lq_of {freq : List Int} {most : Int} (h : lenE freq most = 0) {s : Nat} (hs : s < freq.length) : 0 ≤ gi (lenQ freq most) s ∧ gi (lenQ freq most) s ≤ most ∧ (0 < gi (lenQ freq most) s ↔ 0 < gi freq s) := by
  obtain ⟨m, rfl, m1, m2, _, _, _, u1, u2, e⟩ := lq_ok h
  rw [e]
  split
  · rename_i h1
    obtain ⟨a, b⟩ := one_of h1
    have := b s hs
    rw [one_gi a hs]
    split
    · rename_i hst
      rw [this]
      exact ⟨by omega, by omega, by simp [hst]⟩
    · rename_i hst
      rw [this]
      exact ⟨by omega, by omega, by simp [hst]⟩
  · exact ln_of (by omega) ⟨m1, m2⟩ u2 hs
theorem lq_often {freq : List Int} {most : Int} (h : lenE freq most = 0) {i k : Nat} (hi : i < freq.length) (hk : k < freq.length) (hlt : gi freq k < gi freq i) (h0 : 0 < gi freq k) : gi (lenQ freq most) i ≤ gi (lenQ freq most) k := by
  obtain ⟨m, rfl, m1, m2, _, _, _, u1, u2, e⟩ := lq_ok h
  rw [e]
  split
  · rename_i h1
    obtain ⟨a, b⟩ := one_of h1
    have h2 := (b k hk).1 h0
    have h3 := (b i hi).1 (by omega)
    rw [h2, h3]; exact Int.le_refl _
  · exact ln_often (by omega) ⟨m1, m2⟩ u2 hi hk hlt h0
theorem lq_full {freq : List Int} {most : Int} (h : lenE freq most = 0) : fullB (lenQ freq most) = true := by
  have hl := lq_len h
  have hof := fun s hs => lq_of h (s := s) hs
  obtain ⟨m, rfl, m1, m2, n1, n2, _, u1, u2, e⟩ := lq_ok h
  by_cases h1 : (usd freq).length = 1
  · have hus := us_same hl (fun s hs => (hof s hs).2.2)
    have e' := e
    rw [if_pos h1] at e'
    obtain ⟨a, b⟩ := one_of h1
    have hgi : ∀ s, s < freq.length → gi (lenQ freq m) s = if s = gnn (usd freq) 0 then 1 else 0 := fun s hs => by rw [e']; exact one_gi a hs
    have hmem : ∀ x ∈ lenQ freq m, x = 0 ∨ x = 1 := fun x hx => by
      obtain ⟨s, hs, rfl⟩ := List.mem_iff_getElem.1 hx
      have := hgi s (by omega)
      rw [gi_get _ _ hs] at this
      rw [this]; split
      · exact .inr rfl
      · exact .inl rfl
    have hm1 : (1 : Int) ∈ lenQ freq m := by
      have h3 := gi_mem (lenQ freq m) (gnn (usd freq) 0) (by omega)
      rw [hgi _ a, if_pos rfl] at h3
      exact h3
    have hlo : loN (lenQ freq m) = 1 := by
      unfold loN
      have key : ∀ (l : List Int) (z : Int), (z = 0 ∨ z = 1) → (∀ x ∈ l, x = 0 ∨ x = 1) → l.foldl max z = if z = 1 ∨ 1 ∈ l then 1 else 0 := by
        intro l
        induction l with
        | nil => intro z hz _; rcases hz with rfl | rfl <;> simp
        | cons x r ih =>
          intro z hz hx
          have hx0 := hx x (by simp)
          rw [List.foldl_cons, ih (max z x) (by rcases hz with rfl | rfl <;> rcases hx0 with rfl | rfl <;> simp [Int.max_def]) (fun y hy => hx y (by simp [hy]))]
          rcases hz with rfl | rfl <;> rcases hx0 with rfl | rfl <;> simp [Int.max_def]
      rw [key _ 0 (.inl rfl) hmem, if_pos (.inr hm1)]
    unfold fullB
    simp only [Bool.and_eq_true, decide_eq_true_eq, hl]
    refine ⟨⟨⟨n1, n2⟩, ?_⟩, ?_⟩
    · rw [List.all_eq_true]
      intro x hx
      rcases hmem x hx with rfl | rfl <;> rfl
    · rw [if_pos (by omega), hlo]; rfl
  · rw [e, if_neg h1]
    exact len_full (by omega) ⟨m1, m2⟩ u2 n2
theorem lq_least {freq : List Int} {most : Int} (h : lenE freq most = 0) {o : List Int} (hol : o.length = freq.length) (ho : ∀ s, s < freq.length → gi o s ≤ most ∧ (0 < gi o s ↔ 0 < gi freq s)) (hf : fullB o = true) : sumZ (fun s => gi freq s * gi (lenQ freq most) s) freq.length ≤ sumZ (fun s => gi freq s * gi o s) freq.length := by
  obtain ⟨m, rfl, m1, m2, n1, n2, hfr, u1, u2, e⟩ := lq_ok h
  by_cases h1 : (usd freq).length = 1
  · rw [if_pos h1] at e
    obtain ⟨a, b⟩ := one_of h1
    refine sumZ_le fun s hs => ?_
    have h0 := (hfr _ (gi_mem freq s hs)).1
    refine Int.mul_le_mul_of_nonneg_left ?_ h0
    have hok := okLen_iff.1 (List.all_eq_true.1 (by unfold fullB at hf; simp only [Bool.and_eq_true] at hf; exact hf.1.2 : o.all okLen = true) _ (gi_mem o s (by omega)))
    have := (ho s hs).2
    rw [e, one_gi a hs]
    split
    · rename_i hst
      have := (b s hs).2 hst
      omega
    · exact hok.1
  · rw [e, if_neg h1]
    exact len_least (by omega) ⟨m1, m2⟩ u2 hol ho hf

set_option maxHeartbeats 4000000 in
theorem poften_law {F : Nat → Prop} {w : World} {v : Value} {freq : List Int} (most : Int) (hr : Rd F w v freq.length (intsV freq)) (hm : freq.length ≤ maxLen) :
    Calls Try.prog 5 [v, .int .i64 most].toArray w (Ret fun r w' => r = .bool true ∧ Mod none' w w') := by
  refine F_sound c5 (by simp [fc5]) ?_
  obtain ⟨hS, hL⟩ := hr.sl
  simp [fc5, s5]
  refine callm known_c (by simp) ?_
  intro w1 M1
  have H := Hp.ofMod M1
  simp
  refine ite_r (t := false) (by simp) (fun h => by cases h) (fun _ => ?_)
  simp [hS, hL]
  by_cases hbig : 60 < freq.length
  · refine ite_r (t := true) (by simp; omega) (fun _ => ?_) (fun h => by cases h)
    simp
    exact M1
  refine ite_r (t := false) (by simp; omega) (fun h => by cases h) (fun _ => ?_)
  simp
  refine call_h (lengths_c most (hr.at H.mod) (by omega) hm) (by simp) ?_
  rintro r w2 ⟨vl, rfl, HL⟩
  replace H : Hp w w2 [.own 3 1 vl (lenQ freq most).length (intsV (lenQ freq most))] := H.join HL
  clear HL
  simp
  by_cases he : lenE freq most = 0
  · have hlen := lq_len he
    have hof := fun i k hi hk h1 h0 => lq_often he (i := i) (k := k) hi hk h1 h0
    rw [he]
    obtain ⟨lS, lL⟩ := (H.rd 0 rfl).sl
    have hrw := hr.at H.mod
    generalize lenQ freq most = l at *
    refine ite_r (t := false) (by simp) (fun h => by cases h) (fun _ => ?_)
    simp [hS, hL, lS, lL]
    refine ite_r (t := false) (by simp; omega) (fun h => by cases h) (fun _ => ?_)
    simp
    refine for_r freq.length (fun i env' w' => env' 0 = v ∧ env' 5 = vl ∧ env' 7 = .int .i64 i ∧ Hp w w' [.own 3 1 vl l.length (intsV l)]) ?_ ?_ ?_
    · exact ⟨by simp, by simp, by simp, H⟩
    · rintro i env w3 hi ⟨e0, e5, e7, H⟩
      have wi : IntKind.i64.wrap ((i : Int) + 1) = ((i + 1 : Nat) : Int) := by rw [wI (by omega) (by omega)]; omega
      simp [e0, e7, hS, hL]
      refine ite_r (t := true) (by simp [hi]) (fun _ => ?_) (fun h => by cases h)
      simp [wp_blk]
      refine for_r freq.length (fun k env' w' => env' 0 = v ∧ env' 5 = vl ∧ env' 7 = .int .i64 i ∧ env' 8 = .int .i64 k ∧ Hp w w' [.own 3 1 vl l.length (intsV l)]) ?_ ?_ ?_
      · exact ⟨by simp [e0], by simp [e5], by simp [e7], by simp, H⟩
      · rintro k env w4 hk ⟨e0, e5, e7, e8, H⟩
        have wk : IntKind.i64.wrap ((k : Int) + 1) = ((k + 1 : Nat) : Int) := by rw [wI (by omega) (by omega)]; omega
        have HD := H.drew
        have ca := (hr.at HD.mod).gi i hi
        have cb := (hr.at HD.mod).gi k hk
        have pa := hr.some (by omega)
        obtain ⟨cS, cL⟩ := (H.rd 0 rfl).sl
        have cc := (HD.rd 0 rfl).gi i (by omega)
        have cd := (HD.rd 0 rfl).gi k (by omega)
        have pc := (HD.rd 0 rfl).some (by omega)
        have hof' := hof i k hi hk
        have hil : i < l.length := by omega
        have hkl : k < l.length := by omega
        generalize gi freq i = fi at *
        generalize gi freq k = fk at *
        generalize gi l i = li at *
        generalize gi l k = lk at *
        simp [e0, e8, hS, hL]
        refine ite_r (t := true) (by simp [hk]) (fun _ => ?_) (fun h => by cases h)
        simp [wp_blk, wp_draw, e0, e5, e7, e8, hS, hL, cS, cL, pa, pc, ca, cb, cc, cd, hi, hk, hil, hkl]
        refine ite_r (t := false) (by simp; exact hof') (fun h => by cases h) (fun _ => ?_)
        simp [e0, e5, e7, e8, wk]
        exact HD
      · rintro env w4 ⟨e0, e5, e7, e8, H⟩
        simp [e0, e8, hS, hL]
        refine ite_r (t := false) (by simp) (fun h => by cases h) (fun _ => ?_)
        simp [e0, e5, e7, wi]
        exact H
    · rintro env w3 ⟨e0, e5, e7, H⟩
      simp [e0, e7, hS, hL]
      refine ite_r (t := false) (by simp) (fun h => by cases h) (fun _ => ?_)
      simp
      exact H.mod
  · refine ite_r (t := true) (by simp [he]) (fun _ => ?_) (fun h => by cases h)
    simp
    exact H.mod

end Go.Proofs.Ytgjnfajdejkkjaa.VG
