/-
  No other code for the same symbols costs less.
-/
import Derived.Test.YtgjnfajdejkkjaaXf
namespace Go.Proofs.Ytgjnfajdejkkjaa.VG
open Go
set_option linter.unusedSimpArgs false
set_option linter.unusedVariables false
set_option maxRecDepth 20000

theorem twN_sum {f l : List Int} : ∀ n : Nat, n ≤ 1024 → (∀ s, s < n → 0 ≤ gi f s * gi l s ∧ gi f s * gi l s ≤ 35184372088832) → twN f l n = sumZ (fun s => gi f s * gi l s) n ∧ 0 ≤ twN f l n ∧ twN f l n ≤ 35184372088832 * n
  | 0, _, _ => ⟨rfl, Int.le_refl _, Int.le_refl _⟩
  | n + 1, hn, h => by
    obtain ⟨a, b, c⟩ := twN_sum n (by omega) (fun s hs => h s (by omega))
    obtain ⟨d, e⟩ := h n (by omega)
    have e1 : IntKind.i64.wrap (gi f n * gi l n) = gi f n * gi l n := wI (by omega) (by omega)
    have e2 : IntKind.i64.wrap (twN f l n + gi f n * gi l n) = twN f l n + gi f n * gi l n := wI (by omega) (by omega)
    rw [twN, e1, e2, sumZ, ← a]
    exact ⟨rfl, by omega, by omega⟩
theorem cost_eq {f l : List Int} (hf : ∀ x ∈ f, 0 ≤ x ∧ x ≤ 1099511627776) (hfl : f.length ≤ 1024) (hl : ∀ s, s < f.length → 0 ≤ gi l s ∧ gi l s ≤ 24) : twN f l f.length = sumZ (fun s => gi f s * gi l s) f.length := by
  refine (twN_sum f.length hfl fun s hs => ?_).1
  obtain ⟨a, b⟩ := hf _ (gi_mem f s hs)
  obtain ⟨c, d⟩ := hl s hs
  refine ⟨Int.mul_nonneg a c, ?_⟩
  have h1 : gi f s * gi l s ≤ gi f s * 24 := Int.mul_le_mul_of_nonneg_left d a
  omega
theorem full_ok {l : List Int} (h : fullB l = true) {s : Nat} (hs : s < l.length) : 0 ≤ gi l s ∧ gi l s ≤ 24 := by
  unfold fullB at h
  simp only [Bool.and_eq_true] at h
  exact okLen_iff.1 (List.all_eq_true.1 h.1.2 _ (gi_mem l s hs))

/-- Do the other lengths fit, as far as was looked? -/
def fitB (freq o : List Int) (most : Int) (i : Nat) : Bool := (decide (o.length = freq.length) && fullB o) && (List.range i).all fun j => decide (0 < gi o j) == decide (0 < gi freq j) && decide (gi o j ≤ most)
theorem fitB_succ (freq o : List Int) (most : Int) (i : Nat) : fitB freq o most (i + 1) = (fitB freq o most i && (decide (0 < gi o i) == decide (0 < gi freq i)) && decide (gi o i ≤ most)) := by
  unfold fitB
  rw [List.range_succ, List.all_append]
  simp [Bool.and_assoc]
theorem fitB_true {freq o : List Int} {most : Int} {n : Nat} (h : fitB freq o most n = true) : o.length = freq.length ∧ fullB o = true ∧ ∀ s, s < n → gi o s ≤ most ∧ (0 < gi o s ↔ 0 < gi freq s) := by
  unfold fitB at h
  simp only [Bool.and_eq_true, decide_eq_true_eq, List.all_eq_true, List.mem_range, beq_iff_eq] at h
  exact ⟨h.1.1, h.1.2, fun s hs => ⟨(h.2 s hs).2, by have := (h.2 s hs).1; rwa [decide_eq_decide] at this⟩⟩

set_option maxHeartbeats 4000000 in
theorem pleast_law {F G : Nat → Prop} {w : World} {v u : Value} {freq o : List Int} (most : Int) (hr : Rd F w v freq.length (intsV freq)) (hu : Rd G w u o.length (intsV o)) (hm : freq.length ≤ maxLen) (hom : o.length ≤ maxLen) :
    Calls Try.prog 7 [v, .int .i64 most, u].toArray w (Ret fun r w' => r = .bool true ∧ Mod none' w w') := by
  refine F_sound c7 (by simp [fc7]) ?_
  obtain ⟨hS, hL⟩ := hr.sl
  obtain ⟨uS, uL⟩ := hu.sl
  simp [fc7, s7]
  refine callm known_c (by simp) ?_
  intro w1 M1
  have H := Hp.ofMod M1
  simp
  refine ite_r (t := false) (by simp) (fun h => by cases h) (fun _ => ?_)
  simp [hS, hL]
  by_cases hbig : 60 < freq.length
  · refine ite_r (t := true) (by simp; omega) (fun _ => ?_) (fun h => by cases h)
    simp
    exact M1
  refine ite_r (t := false) (by simp; omega) (fun h => by cases h) (fun _ => ?_)
  simp
  refine call_h (lengths_c most (hr.at H.mod) (by omega) hm) (by simp) ?_
  rintro r w2 ⟨vl, rfl, HL⟩
  replace H : Hp w w2 [.own 3 1 vl (lenQ freq most).length (intsV (lenQ freq most))] := H.join HL
  clear HL
  simp
  by_cases he : lenE freq most = 0
  · have hlen := lq_len he
    have hof := fun s hs => lq_of he (s := s) hs
    have hfu := lq_full he
    have hle := fun h1 h2 h3 => lq_least he (o := o) h1 h2 h3
    obtain ⟨_, _, _, _, _, _, hfr, _⟩ := lq_ok he
    rw [he]
    obtain ⟨lS, lL⟩ := (H.rd 0 rfl).sl
    generalize lenQ freq most = l at *
    refine ite_r (t := false) (by simp) (fun h => by cases h) (fun _ => ?_)
    simp
    refine callp (full_c (H.rd 0 rfl) (by omega)) (by simp) ?_
    simp [hfu, hS, hL, lS, lL]
    refine ite_r (t := false) (by simp; omega) (fun h => by cases h) (fun _ => ?_)
    simp [hS, hL, uS, uL]
    refine ifg_cut (t := decide (o.length = freq.length)) (fun env' w' => w' = w2 ∧ env' 0 = v ∧ env' 1 = .int .i64 most ∧ env' 2 = u ∧ env' 7 = vl ∧ env' 39 = .bool (decide (o.length = freq.length)) ∧ (o.length = freq.length → env' 41 = .bool (fullB o))) ?_ ?_ ?_ ?_
    · by_cases ht : o.length = freq.length
      · simp [ht]
      · have ht' : ¬ ((o.length : Int) = freq.length) := by omega
        simp [ht, ht']
    · intro ht
      have ht : o.length = freq.length := by simpa using ht
      refine callp (full2_c (hu.at H.mod) (by omega)) (by simp) ?_
      simp [ht]
    · intro ht
      have ht : ¬ o.length = freq.length := by simpa using ht
      simp [ht]
      intro h; exact ht (by exact_mod_cast h)
    · rintro env w3 ⟨rfl, e0, e1, e2, e7, e39, e41⟩
      have e9 : (E.pk (.vr 39) (.vr 41) (.cn (.bool false))).ev env w3 = .bool (fitB freq o most 0) := by
        unfold fitB
        by_cases ht : o.length = freq.length
        · simp [e39, e41 ht, ht]
        · simp [e39, ht]
      have e9k : (E.pk (.vr 39) (.vr 41) (.cn (.bool false))).ok env w3 := by
        by_cases ht : o.length = freq.length
        · simp [e39, e41 ht, ht]
        · simp [e39, ht]
      refine ⟨e9k, ?_⟩
      rw [wp_set, e9]
      simp
      have hr2 := hr.at H.mod
      refine for_r freq.length (fun i env' w' => env' 0 = v ∧ env' 1 = .int .i64 most ∧ env' 2 = u ∧ env' 7 = vl ∧ env' 10 = .int .i64 i ∧ env' 9 = .bool (fitB freq o most i) ∧ Hp w w' [.own 3 1 vl l.length (intsV l)]) ?_ ?_ ?_
      · exact ⟨by simp [e0], by simp [e1], by simp [e2], by simp [e7], by simp, by simp, H⟩
      · rintro i env w4 hi ⟨e0, e1, e2, e7, e10, e9, H⟩
        have wi : IntKind.i64.wrap ((i : Int) + 1) = ((i + 1 : Nat) : Int) := by rw [wI (by omega) (by omega)]; omega
        have HD := H.drew
        have HDD := HD.drew
        have hil : i < l.length := by omega
        have ca := (hr.at HD.mod).gi i hi
        have ca2 := (hr.at HDD.mod).gi i hi
        have cc := (HD.rd 0 rfl).gi i hil
        have pa := hr.some (by omega)
        have pc := (HD.rd 0 rfl).some (by omega)
        obtain ⟨cS, cL⟩ := (H.rd 0 rfl).sl
        obtain ⟨l0, l1, l2⟩ := hof i hi
        have hsucc := fitB_succ freq o most i
        have l2' : decide (0 < gi l i) = decide (0 < gi freq i) := by rw [decide_eq_decide]; exact l2
        simp [e0, e10, hS, hL]
        refine ite_r (t := true) (by simp [hi]) (fun _ => ?_) (fun h => by cases h)
        simp [wp_blk, wp_draw, e0, e1, e7, e10, hS, hL, cS, cL, ca, cc, pa, pc, hi, hil, l2']
        refine ite_r (t := false) (by simp [l2']; omega) (fun h => by cases h) (fun _ => ?_)
        cases hfi : fitB freq o most i with
        | false =>
          rw [hfi] at hsucc
          simp [wp_draw, e0, e1, e2, e7, e9, e10, hfi, wi]
          exact ⟨by rw [hsucc]; rfl, HDD⟩
        | true =>
          have hol := (fitB_true hfi).1
          have hio : i < o.length := by omega
          have co := (hu.at HDD.mod).gi i hio
          have po := hu.some (by omega)
          rw [hfi] at hsucc
          simp [wp_draw, e0, e1, e2, e7, e9, e10, hfi, wi, hS, hL, uS, uL, ca2, co, pa, po, hi, hio]
          exact ⟨by rw [hsucc]; simp, HDD⟩
      · rintro env w4 ⟨e0, e1, e2, e7, e10, e9, H⟩
        simp [e0, e10, hS, hL]
        refine ite_r (t := false) (by simp) (fun h => by cases h) (fun _ => ?_)
        simp [e9]
        cases hfi : fitB freq o most freq.length with
        | false =>
          refine ifg_r (t := true) (by simp [hfi]) (fun h => by cases h) (fun _ => ?_)
          simp
          refine ifg_r (t := true) (by simp [hfi]) (fun h => by cases h) (fun _ => ?_)
          simp [hfi]
          exact H.mod
        | true =>
          obtain ⟨f1, f2, f3⟩ := fitB_true hfi
          have hcost := hle f1 f3 f2
          have t1 := cost_eq hfr (by omega) (l := l) (fun s hs => full_ok hfu (by omega))
          have t2 := cost_eq hfr (by omega) (l := o) (fun s hs => full_ok f2 (by omega))
          rw [← t1, ← t2] at hcost
          refine ifg_r (t := false) (by simp [hfi]) (fun _ => ?_) (fun h => (h rfl).elim)
          refine callm (total_c (hr.at H.mod) (H.rd 0 rfl) (by omega) (by omega)) (by simp [e0, e7]) ?_
          intro w5 M5
          replace H := H.same M5
          simp
          refine ifg_r (t := false) (by simp [hfi]) (fun _ => ?_) (fun h => (h rfl).elim)
          refine callm (total_c (hr.at H.mod) (hu.at H.mod) (by omega) (by omega)) (by simp [e0, e2]) ?_
          intro w6 M6
          replace H := H.same M6
          rw [show min freq.length l.length = freq.length by omega, show min freq.length o.length = freq.length by omega]
          simp [hfi, hcost]
          exact H.mod
  · refine ite_r (t := true) (by simp [he]) (fun _ => ?_) (fun h => by cases h)
    simp
    exact H.mod

end Go.Proofs.Ytgjnfajdejkkjaa.VG
