/-
  A code's table is put.
-/
import Derived.Test.YtgjnfajdejkkjaaYa
import Derived.Test.YtgjnfajdejkkjaaXe
import Derived.Test.YtgjnfajdejkkjaaQj
namespace Go.Proofs.Ytgjnfajdejkkjaa.VG
open Go
set_option linter.unusedSimpArgs false
set_option linter.unusedVariables false
set_option maxRecDepth 20000

/-- How many zeros stand ahead, at most f. -/
def zrF : Nat → List Int → Nat
  | 0, _ => 0
  | _ + 1, [] => 0
  | f + 1, x :: r => if x = 0 then zrF f r + 1 else 0
theorem zrF_eq : ∀ (z f : Nat) (l : List Int), (∀ j, j < z → gi l j = 0) → z ≤ l.length → z ≤ f → (z = f ∨ z = l.length ∨ gi l z ≠ 0) → zrF f l = z
  | 0, 0, l, _, _, _, _ => rfl
  | 0, f + 1, [], _, _, _, _ => rfl
  | 0, f + 1, x :: r, _, _, _, h => by
    rcases h with h | h | h
    · omega
    · simp at h
    · rw [zrF, if_neg (by simpa [gi] using h)]
  | z + 1, 0, l, _, _, h, _ => by omega
  | z + 1, f + 1, [], _, h, _, _ => by simp at h
  | z + 1, f + 1, x :: r, h0, h1, h2, h3 => by
    have hx : x = 0 := by simpa [gi] using h0 0 (by omega)
    rw [zrF, if_pos hx, zrF_eq z f r (fun j hj => by simpa [gi] using h0 (j + 1) (by omega)) (by simpa using h1) (by omega) (by
      rcases h3 with h | h | h
      · exact .inl (by omega)
      · exact .inr (.inl (by simpa using h))
      · exact .inr (.inr (by simpa [gi] using h)))]
theorem zrF_all : ∀ (f : Nat) (l : List Int), zrF f l ≤ l.length ∧ zrF f l ≤ f ∧ l.take (zrF f l) = List.replicate (zrF f l) 0
  | 0, l => by simp [zrF]
  | f + 1, [] => by simp [zrF]
  | f + 1, x :: r => by
    obtain ⟨a, b, c⟩ := zrF_all f r
    rw [zrF]
    split
    · rename_i h
      refine ⟨by simpa using a, by omega, ?_⟩
      rw [List.take_succ_cons, c, List.replicate_succ, h]
    · simp
def zr (l : List Int) : Nat := zrF 66 l
def tabL : Nat → List Int → List Bool
  | 0, _ => []
  | _ + 1, [] => []
  | f + 1, x :: r => if zr (x :: r) < 3 then toB x.toNat 5 ++ tabL f r else (toB 31 5 ++ toB (zr (x :: r) - 3) 6) ++ tabL f ((x :: r).drop (zr (x :: r)))
def tabT (l : List Int) : List Bool := tabL l.length l
/-- The table's bits. -/
def tabB (l : List Int) : List Bool := toB (l.length - 1) 10 ++ tabT l
theorem tabL_fuel : ∀ (n f : Nat) (l : List Int), l.length ≤ n → l.length ≤ f → tabL f l = tabL l.length l
  | _, 0, [], _, _ => rfl
  | _, f + 1, [], _, _ => rfl
  | 0, f, x :: r, h, _ => by simp at h
  | n + 1, 0, x :: r, _, h => by simp at h
  | n + 1, f + 1, x :: r, h, h2 => by
    have hz := zrF_all 66 (x :: r)
    rw [List.length_cons, tabL, tabL]
    split
    · rw [tabL_fuel n f r (by simpa using h) (by simpa using h2)]
    · rename_i h3
      have h3 : ¬ zrF 66 (x :: r) < 3 := h3
      have e : ((x :: r).drop (zr (x :: r))).length = r.length + 1 - zrF 66 (x :: r) := by rw [List.length_drop, List.length_cons]; rfl
      rw [tabL_fuel n f _ (by rw [e]; simp at h; omega) (by rw [e]; simp at h2; omega), tabL_fuel n r.length _ (by rw [e]; simp at h; omega) (by rw [e]; omega)]
theorem tabT_nil : tabT [] = [] := rfl
theorem tabT_one {l : List Int} (h : 0 < l.length) (hz : zr l < 3) : tabT l = toB (gi l 0).toNat 5 ++ tabT (l.drop 1) := by
  cases l with
  | nil => simp at h
  | cons x r =>
    unfold tabT
    rw [List.length_cons, tabL, if_pos hz]
    rfl
theorem tabT_run {l : List Int} (h : 0 < l.length) (hz : ¬ zr l < 3) : tabT l = (toB 31 5 ++ toB (zr l - 3) 6) ++ tabT (l.drop (zr l)) := by
  cases l with
  | nil => simp at h
  | cons x r =>
    have hz' : ¬ zrF 66 (x :: r) < 3 := hz
    have e : ((x :: r).drop (zr (x :: r))).length = r.length + 1 - zrF 66 (x :: r) := by rw [List.length_drop, List.length_cons]; rfl
    unfold tabT
    rw [List.length_cons, tabL, if_neg hz, tabL_fuel (r.length) r.length _ (by rw [e]; omega) (by rw [e]; omega)]
theorem tabL_len : ∀ (f : Nat) (l : List Int), (tabL f l).length ≤ 11 * l.length
  | 0, _ => by simp [tabL]
  | _ + 1, [] => by simp [tabL]
  | f + 1, x :: r => by
    rw [tabL]
    split
    · have := tabL_len f r
      rw [List.length_append, toB_length, List.length_cons]; omega
    · rename_i h3
      have h3 : ¬ zrF 66 (x :: r) < 3 := h3
      have := tabL_len f ((x :: r).drop (zr (x :: r)))
      have e : ((x :: r).drop (zr (x :: r))).length = r.length + 1 - zrF 66 (x :: r) := by rw [List.length_drop, List.length_cons]; rfl
      have hz := zrF_all 66 (x :: r)
      rw [List.length_append, List.length_append, toB_length, toB_length, List.length_cons]
      rw [e] at this
      have := hz.1
      rw [List.length_cons] at this
      omega
theorem gi_drop (l : List Int) (i j : Nat) : gi (l.drop i) j = gi l (i + j) := by simp [gi]

set_option maxHeartbeats 4000000 in
theorem puttab_h {W w : World} {rest : List It} {b : Nat} {bs : List Bool} {G : Nat → Prop} {v : Value} {lens : List Int} (H : Hp W w (.wr b bs :: rest))
    (hr : ∀ bs' w', Hp W w' (.wr b bs' :: rest) → Rd G w' v lens.length (intsV lens)) (hbl : bs.length < 1000000) (hf : fullB lens = true) :
    Calls Try.prog 29 [.pointer (some ⟨b, 0, none⟩), v].toArray w (Ret fun r w' => r = .int .i64 0 ∧ Hp W w' (.wr b (bs ++ tabB lens) :: rest)) := by
  refine F_sound c29 (by simp [fc29]) ?_
  have hlen : 1 ≤ lens.length ∧ lens.length ≤ 1024 ∧ lens.all okLen = true := by
    unfold fullB at hf
    simp only [Bool.and_eq_true, decide_eq_true_eq] at hf
    exact ⟨hf.1.1.1, hf.1.1.2, hf.1.2⟩
  have hok : ∀ i, i < lens.length → 0 ≤ gi lens i ∧ gi lens i ≤ 24 := fun i hi => okLen_iff.1 (List.all_eq_true.1 hlen.2.2 _ (gi_mem lens i hi))
  obtain ⟨vS, vL⟩ := (hr _ _ H).sl
  simp [fc29, s29]
  refine callp (full_c (hr _ _ H) (by omega)) (by simp) ?_
  simp [hf, vS, vL]
  refine ite_r (t := false) (by simp) (fun h => by cases h) (fun _ => ?_)
  simp [vS, vL]
  have wl : IntKind.i64.wrap ((lens.length : Int) - 1) = ((lens.length - 1 : Nat) : Int) := by rw [wI (by omega) (by omega)]; omega
  have wlu : IntKind.u64.wrap ((lens.length - 1 : Nat) : Int) = ((lens.length - 1 : Nat) : Int) := wU (by omega) (by omega)
  obtain ⟨FW, hW, hFW, upW, rdW⟩ := H.wr 0 rfl
  refine call_h (put_yes hW (lens.length - 1) 10 (by omega) (by omega) (by omega)) (by simp (disch := omega) [wI, wU, tmod_nn, tdiv_nn, env0_0, env0_1, env0_2, env0_3, env0_4, env0_5, -env0_apply, vS, vL, wl, wlu]) ?_
  rintro r wW ⟨rfl, AW⟩
  replace H := upW _ _ AW
  replace H : Hp W wW (.wr b (bs ++ toB (lens.length - 1) 10) :: rest) := H
  simp
  refine loop_r (fun z env' w' => env' 0 = .pointer (some ⟨b, 0, none⟩) ∧ env' 1 = v ∧ ∃ i D, z = lens.length - i ∧ i ≤ lens.length ∧ env' 5 = .int .i64 (i : Nat) ∧ D ++ tabT (lens.drop i) = tabT lens ∧ Hp W w' (.wr b (bs ++ toB (lens.length - 1) 10 ++ D) :: rest)) lens.length ?_ ?_
  · exact ⟨by simp, by simp, 0, [], rfl, by omega, by simp, by simp, by simpa using H⟩
  · rintro z env w2 ⟨e0, e1, i, D, rfl, hi, e5, hD, H⟩
    have hDl : D.length ≤ 11 * lens.length := by
      have h1 := congrArg List.length hD
      have h2 := tabL_len lens.length lens
      rw [List.length_append] at h1
      unfold tabT at h1
      omega
    simp [e1, e5, vS, vL]
    by_cases hend : i = lens.length
    · subst hend
      refine ite_r (t := false) (by simp) (fun h => by cases h) (fun _ => ?_)
      simp
      rw [List.drop_length, tabT_nil, List.append_nil] at hD
      unfold tabB
      rw [← hD, ← List.append_assoc]
      exact H
    · have hil : i < lens.length := by omega
      refine ite_r (t := true) (by simp; omega) (fun _ => ?_) (fun h => by cases h)
      show S.wp _ (S.blk 1 _ _) _ _ _
      rw [wp_blk]
      simp
      refine loop_w (fun q env' w' => env' 0 = .pointer (some ⟨b, 0, none⟩) ∧ env' 1 = v ∧ env' 5 = .int .i64 (i : Nat) ∧ w' = w2 ∧ ∃ z, q = 66 - z ∧ z ≤ 66 ∧ env' 6 = .int .i64 (z : Nat) ∧ i + z ≤ lens.length ∧ ∀ j, j < z → gi lens (i + j) = 0) 66
        (fun env' w' => env' 0 = .pointer (some ⟨b, 0, none⟩) ∧ env' 1 = v ∧ env' 5 = .int .i64 (i : Nat) ∧ w' = w2 ∧ env' 6 = .int .i64 (zr (lens.drop i) : Nat)) ?_ ?_ ?_
      · exact ⟨by simp [e0], by simp [e1], by simp [e5], rfl, 0, rfl, by omega, by simp, by omega, fun j hj => by omega⟩
      · rintro q env w3 ⟨e0, e1, e5, rfl, z, rfl, hz66, e6, hiz, h0⟩
        have w6 : IntKind.i64.wrap ((z : Int) + 1) = ((z + 1 : Nat) : Int) := by rw [wI (by omega) (by omega)]; omega
        have w56 : IntKind.i64.wrap ((i : Int) + z) = ((i + z : Nat) : Int) := by rw [wI (by omega) (by omega)]; omega
        have rd := hr _ _ H
        have pv := rd.some (by omega)
        have hstop : (z = 66 ∨ i + z = lens.length ∨ gi lens (i + z) ≠ 0) → zr (lens.drop i) = z := fun h => zrF_eq z 66 _ (fun j hj => by rw [gi_drop]; exact h0 j hj) (by rw [List.length_drop]; omega) hz66 (by
          rw [List.length_drop, gi_drop]
          rcases h with h | h | h
          · exact .inl h
          · exact .inr (.inl (by omega))
          · exact .inr (.inr h))
        by_cases h1 : z = 66
        · simp [e1, e5, e6, vS, vL, w56, h1, -Int.natCast_add]
          refine ite_r (t := false) (by simp) (fun h => by cases h) (fun _ => ?_)
          simp [-Int.natCast_add]
          exact ⟨e0, e1, e5, by rw [e6, hstop (.inl h1)]⟩
        · have hz : z < 66 := by omega
          by_cases h2 : i + z = lens.length
          · simp [e1, e5, e6, vS, vL, w56, hz, h2, -Int.natCast_add]
            refine ite_r (t := false) (by simp [h2] <;> omega) (fun h => by cases h) (fun _ => ?_)
            simp [-Int.natCast_add]
            exact ⟨e0, e1, e5, by rw [e6, hstop (.inr (.inl h2))]⟩
          · have hizl : i + z < lens.length := by omega
            have cz := rd.gi (i + z) hizl
            simp [e1, e5, e6, vS, vL, w56, hz, hizl, pv, cz, -Int.natCast_add]
            by_cases h3 : gi lens (i + z) = 0
            · refine ite_r (t := true) (by simp [h3, hz, hizl] <;> omega) (fun _ => ?_) (fun h => by cases h)
              simp [wp_blk, e6, w6, -Int.natCast_add]
              refine ⟨66 - (z + 1), by omega, by simp [e0], by simp [e1], by simp [e5], z + 1, rfl, by omega, by simp, by omega, fun j hj => ?_⟩
              rcases Nat.lt_or_ge j z with h | h
              · exact h0 j h
              · obtain rfl : j = z := by omega
                exact h3
            · refine ite_r (t := false) (by simp [h3] <;> omega) (fun h => by cases h) (fun _ => ?_)
              simp [-Int.natCast_add]
              exact ⟨by simp [e0], by simp [e1], by simp [e5], by simp [e6, hstop (.inr (.inr h3))]⟩
      · rintro env w3 ⟨e0, e1, e5, rfl, e6⟩
        have hzall := zrF_all 66 (lens.drop i)
        have hzd : zrF 66 (lens.drop i) = zr (lens.drop i) := rfl
        rw [hzd, List.length_drop] at hzall
        have hdl : 0 < (lens.drop i).length := by rw [List.length_drop]; omega
        have h1 := @tabT_one (lens.drop i) hdl
        have h2 := @tabT_run (lens.drop i) hdl
        rw [gi_drop, Nat.add_zero, List.drop_drop] at h1
        rw [List.drop_drop] at h2
        obtain ⟨o0, o1⟩ := hok i hil
        have rd := hr _ _ H
        have pv := rd.some (by omega)
        have ci := rd.gi i hil
        generalize zr (lens.drop i) = z at *
        have wi : IntKind.i64.wrap ((i : Int) + 1) = ((i + 1 : Nat) : Int) := by rw [wI (by omega) (by omega)]; omega
        have wiz : IntKind.i64.wrap ((i : Int) + z) = ((i + z : Nat) : Int) := by rw [wI (by omega) (by omega)]; omega
        obtain ⟨x, hx⟩ : ∃ x : Nat, gi lens i = x := ⟨(gi lens i).toNat, by omega⟩
        rw [hx] at ci h1
        rw [Int.toNat_natCast] at h1
        have wx : IntKind.u64.wrap (x : Int) = (x : Int) := wU (by omega) (by omega)
        simp [e6]
        by_cases hz3 : z < 3
        · have h1 := h1 hz3
          rw [h1, ← List.append_assoc] at hD
          refine ite_r (t := true) (by simp; omega) (fun _ => ?_) (fun h => by cases h)
          simp [e0, e1, e5, vS, vL, pv, ci, hil, wx]
          obtain ⟨FW, hW, hFW, upW, rdW⟩ := H.wr 0 rfl
          refine call_h (put_yes hW x 5 (by omega) (by omega) (by simp [toB_length]; omega)) (by simp (disch := omega) [wI, wU, tmod_nn, tdiv_nn, env0_0, env0_1, env0_2, env0_3, env0_4, env0_5, -env0_apply, e0, wx]) ?_
          rintro r wW ⟨rfl, AW⟩
          replace H := upW _ _ AW
          simp [e5, wi]
          refine ⟨lens.length - (i + 1), by omega, by simp [e0], by simp [e1], i + 1, rfl, by omega, by simp, D ++ toB x 5, hD, ?_⟩
          simpa [List.append_assoc] using H
        · have h2 := h2 hz3
          rw [h2, ← List.append_assoc] at hD
          have wz3 : IntKind.i64.wrap ((z : Int) - 3) = ((z - 3 : Nat) : Int) := by rw [wI (by omega) (by omega)]; omega
          have wz3u : IntKind.u64.wrap ((z - 3 : Nat) : Int) = ((z - 3 : Nat) : Int) := wU (by omega) (by omega)
          refine ite_r (t := false) (by simp; omega) (fun h => by cases h) (fun _ => ?_)
          simp [e0]
          obtain ⟨FW, hW, hFW, upW, rdW⟩ := H.wr 0 rfl
          refine call_h (put_yes hW 31 5 (by omega) (by omega) (by simp [toB_length]; omega)) (by simp (disch := omega) [wI, wU, tmod_nn, tdiv_nn, env0_0, env0_1, env0_2, env0_3, env0_4, env0_5, -env0_apply, e0]) ?_
          rintro r wW ⟨rfl, AW⟩
          replace H := upW _ _ AW
          replace H : Hp W wW (.wr b (bs ++ toB (lens.length - 1) 10 ++ D ++ toB 31 5) :: rest) := H
          simp [e0, e6, wz3, wz3u]
          obtain ⟨FW, hW, hFW, upW, rdW⟩ := H.wr 0 rfl
          refine call_h (put_yes hW (z - 3) 6 (by omega) (by omega) (by simp [toB_length]; omega)) (by simp (disch := omega) [wI, wU, tmod_nn, tdiv_nn, env0_0, env0_1, env0_2, env0_3, env0_4, env0_5, -env0_apply, e0, e6, wz3, wz3u]) ?_
          rintro r wW ⟨rfl, AW⟩
          replace H := upW _ _ AW
          simp [e5, e6, wiz]
          refine ⟨lens.length - (i + z), by omega, by simp [e0], by simp [e1], i + z, rfl, by omega, by simp, D ++ (toB 31 5 ++ toB (z - 3) 6), hD, ?_⟩
          simpa [List.append_assoc] using H

end Go.Proofs.Ytgjnfajdejkkjaa.VG
