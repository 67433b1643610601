/-
  A thing put by weight, the document's way.
-/
import Derived.Test.YtgjnfajdejkkjaaXi
namespace Go.Proofs.Ytgjnfajdejkkjaa.VG
open Go
set_option linter.unusedSimpArgs false
set_option linter.unusedVariables false
set_option maxRecDepth 20000

theorem app0_h {P : Program} {Q : Exit → Env → World → Prop} {env : Env} {w W : World} {k : S} {x : Option Nat} {s u : Operand} {ty : TypeId} {m : List (Nat × E)} {pr : List PrE} {v vu : Value} {A B : List Dn} {G : Nat → Prop} {l : List It} (T : SlT P 67 70 2 32) (j : Nat)
    (h : Hp W w l) (hj : l[j]? = some (.own 70 2 v A.length (thV A))) (hu : Rd G w vu B.length (thV B)) (hB : ∀ d ∈ B, DnS d) (hl : A.length + B.length ≤ 1000000)
    (hs : rhoOf m env w s = v) (hx : rhoOf m env w u = vu)
    (hk : ∀ v' w', Hp W w' (l.set j (.own 70 2 v' (A ++ B).length (thV (A ++ B)))) → (pr = [] ∨ promsOk pr env w w') ∧ k.wp P Q (updo env x v') w') :
    (S.op x (.call ⟨.builtin .append, #[s, u], #[67, 67]⟩) ty m pr k).wp P Q env w := by
  have hM : maxLen = 9223372036854775807 := rfl
  refine app_h T j h hj hu (thV_len B) (thV_one hB) (by omega) (by omega) hs hx ?_
  intro v' w' H
  rw [thV_app, ← List.length_append] at H
  exact hk v' w' H

def RsI (w : World) (u : Value) (b : Nat) (R : List Dn) (x : Dn) (z : Nat) (env' : Env) (w' : World) : Prop := env' 0 = u ∧ env' 3 = .pointer (some ⟨b, 0, none⟩) ∧ env' 5 = .int .i64 z ∧ z ≤ R.length ∧ (∀ d ∈ R.drop z, x.wt < d.wt) ∧ Hp w w' [.blk b #[.int .i64 x.wt, x.v]]

set_option maxHeartbeats 4000000 in
theorem rising_c {F : Nat → Prop} {w : World} {u : Value} {R : List Dn} {x : Dn} (hr : Rt F w u R) (hx : DnS x) (hR : R.length ≤ 100000) :
    Calls Try.prog 37 [u, dnV x].toArray w (Ret fun r w' => ∃ i, i ≤ R.length ∧ (∀ d ∈ R.drop i, x.wt < d.wt) ∧ (i = 0 ∨ ∃ y, R[i - 1]? = some y ∧ y.wt ≤ x.wt) ∧ Hp w w' [.own 70 2 r (R.take i ++ ([x] ++ R.drop i)).length (thV (R.take i ++ ([x] ++ R.drop i)))]) := by
  refine F_sound c37 (by simp [fc37]) ?_
  obtain ⟨rS, rL⟩ := hr.rd.sl
  have hM : maxLen = 9223372036854775807 := rfl
  simp [fc37, s37]
  refine box_h (dnV x) (Hp.nil w) (by simp) ?_
  intro b w1 H M1
  refine ⟨.inl rfl, ?_⟩
  simp [rS, rL]
  have hc : (dnV x).cells = #[.int .i64 x.wt, x.v] := rfl
  rw [hc] at H
  replace H : Hp w w1 [.blk b #[.int .i64 x.wt, x.v]] := H
  refine loop_w (RsI w u b R x) R.length (fun env' w' => ∃ z, RsI w u b R x z env' w' ∧ (z = 0 ∨ ∃ y, R[z - 1]? = some y ∧ y.wt ≤ x.wt)) ?_ ?_ ?_
  · exact ⟨by simp, by simp, by simp, Nat.le_refl _, by simp, H⟩
  · rintro z env w2 ⟨e0, e3, e5, hz, hlt, H⟩
    have HD := H.drew
    have hr' := hr.at H.mod
    have c0 := H.blk 0 rfl 0
    simp at c0
    rcases z with _ | z
    · simp [wp_draw, e5]
      refine ite_r (t := false) (by simp) (fun h => by cases h) (fun _ => ?_)
      simp
      exact ⟨0, ⟨e0, e3, e5, hz, hlt, HD⟩, .inl rfl⟩
    · have wz : IntKind.i64.wrap (((z + 1 : Nat) : Int) - 1) = (z : Int) := by rw [wI (by omega) (by omega)]; omega
      have hzl : z < R.length := by omega
      obtain ⟨y, hy⟩ : ∃ y, R[z]? = some y := ⟨R[z]'hzl, List.getElem?_eq_getElem hzl⟩
      obtain ⟨d0, d1, d2, d3⟩ := hr'.cells hy
      have pr := hr'.ptr (by omega)
      have hye : R[z] = y := by rw [List.getElem?_eq_getElem hzl] at hy; simpa using hy
      simp [wp_draw, e0, e3, e5, rS, rL, wz, pr, c0, d0, hzl, -Int.natCast_add]
      by_cases hgt : x.wt < y.wt
      · refine ite_r (t := true) (by simp [hgt] <;> omega) (fun _ => ?_) (fun h => by cases h)
        simp [wp_blk, e5, wz, -Int.natCast_add]
        refine ⟨z, by omega, by simp [e0], by simp [e3], by simp, by omega, ?_, HD⟩
        intro d hd
        rw [List.drop_eq_getElem_cons hzl, hye] at hd
        rcases List.mem_cons.1 hd with rfl | hd
        · exact hgt
        · exact hlt d hd
      · refine ite_r (t := false) (by simp [hgt] <;> omega) (fun h => by cases h) (fun _ => ?_)
        simp
        exact ⟨z + 1, ⟨by simp [e0], by simp [e3], by simp [e5], hz, hlt, HD⟩, .inr ⟨y, by simpa using hy, by omega⟩⟩
  · rintro env w2 ⟨z, ⟨e0, e3, e5, hz, hlt, H⟩, hz2⟩
    have HD := H.drew
    have l1 : ∀ w', Mod none' w w' → Rd F w' (slVal 2 u 0 z) (R.take z).length (thV (R.take z)) := fun w' M => by
      have := (hr.at M).cut 0 z (by omega) hz
      rw [List.drop_zero] at this
      rw [List.length_take, Nat.min_eq_left hz]; exact this
    have l2 : ∀ w', Mod none' w w' → Rd F w' (slVal 2 u z R.length) (R.drop z).length (thV (R.drop z)) := fun w' M => by
      have := (hr.at M).cut z R.length hz (Nat.le_refl _)
      rw [List.take_length] at this
      rw [List.length_drop]; exact this
    have s1 : ∀ d ∈ R.take z, DnS d := fun d hd => hr.sl d (List.mem_of_mem_take hd)
    have s2 : ∀ d ∈ R.drop z, DnS d := fun d hd => hr.sl d (List.mem_of_mem_drop hd)
    have sx : ∀ d ∈ [x], DnS d := fun d hd => by simp only [List.mem_singleton] at hd; subst hd; exact hx
    have hcap := hr.cap
    have c0 := HD.blk 0 rfl 0
    have c1 := HD.blk 0 rfl 1
    simp at c0 c1
    have cc : cellsFrom w2.drew ⟨b, 0, none⟩ 0 2 = [.int .i64 x.wt, x.v] := by simp [cellsFrom, Addr.add, c0, c1]
    have ci : ∀ j, j < 2 → (w2.drew.cell? ⟨b, j, none⟩).isSome = true := fun j hj => by
      obtain rfl | rfl : j = 0 ∨ j = 1 := by omega
      · show (w2.cell? _).isSome = true
        rw [c0]; rfl
      · show (w2.cell? _).isSome = true
        rw [c1]; rfl
    have len1 : (R.take z).length + (R.drop z).length = R.length := by simp; omega
    generalize hP : R.take z = Pp at *
    generalize hQ : R.drop z = Qq at *
    refine sq_cut (fun env' w' => ∃ r, env' 4 = r ∧ Hp w w' [.own 70 2 r (Pp ++ ([x] ++ Qq)).length (thV (Pp ++ ([x] ++ Qq)))]) ?_ ?_
    · simp [wp_draw, e0, e3, e5, rS, rL, cc]
      refine ⟨by omega, ci, hz, ?_⟩
      have fin : ∀ (r : Value) (w' : World), Hp w w' [.blk b #[.int .i64 x.wt, x.v], .own 70 2 r (Pp ++ [x] ++ Qq).length (thV (Pp ++ [x] ++ Qq))] → Hp w w' [.own 70 2 r (Pp.length + (Qq.length + 1)) (thV (Pp ++ x :: Qq))] := fun r w' h => by
        have := h.drop 0
        simpa using this
      refine wp_alt ?_ ?_
      · refine bs_h slTT [] HD rfl (by omega) (by simp) (by simp) ?_
        intro v23 w4 H4 M4
        replace H4 : Hp w w4 [.blk b #[.int .i64 x.wt, x.v], .own 70 2 v23 ([] : List Dn).length (thV [])] := H4
        refine ⟨.inr (by simp [promsOk, promOk, e3]; exact same_blk (HD.blk 0 rfl) (H4.blk 0 rfl)), ?_⟩
        refine wp_alt ?_ ?_
        · refine app0_h slTT 1 H4 rfl (l1 _ H4.mod) s1 (by simp; omega) (by simp) (by simp [e0, e5]) ?_
          intro v27 w5 H5
          refine ⟨.inr (by simp [promsOk, promOk, e3]; exact same_blk (H4.blk 0 rfl) (H5.blk 0 rfl)), ?_⟩
          refine bs_h slTT [dnV x] H5 rfl (by simp) (by simp [cc, dnV]) (by simp [dnV, Value.cells]) ?_
          intro v29 w6 H6 M6
          refine ⟨.inl rfl, ?_⟩
          replace H6 : Hp w w6 [.blk b #[.int .i64 x.wt, x.v], .own 70 2 v27 ([] ++ Pp).length (thV ([] ++ Pp)), .own 70 2 v29 [x].length (thV [x])] := H6
          refine app0_h slTT 1 H6 rfl (H6.rd 2 rfl) sx (by simp; omega) (by simp) (by simp) ?_
          intro v30 w7 H7
          refine ⟨.inl rfl, ?_⟩
          refine app0_h slTT 1 H7 rfl (l2 _ H7.mod) s2 (by simp; omega) (by simp) (by simp [e0, e5, rL]) ?_
          intro v34 w8 H8
          refine ⟨.inl rfl, ?_⟩
          simp
          exact fin _ _ (H8.drop 2)
        · refine bs_h slTT [dnV x] H4 rfl (by simp) (by simp [cc, dnV]) (by simp [dnV, Value.cells]) ?_
          intro v29 w6 H6 M6
          refine ⟨.inl rfl, ?_⟩
          replace H6 : Hp w w6 [.blk b #[.int .i64 x.wt, x.v], .own 70 2 v23 ([] : List Dn).length (thV []), .own 70 2 v29 [x].length (thV [x])] := H6
          refine app0_h slTT 1 H6 rfl (l1 _ H6.mod) s1 (by simp; omega) (by simp) (by simp [e0, e5]) ?_
          intro v27 w5 H5
          refine ⟨.inl rfl, ?_⟩
          refine app0_h slTT 1 H5 rfl (H5.rd 2 rfl) sx (by simp; omega) (by simp) (by simp) ?_
          intro v30 w7 H7
          refine ⟨.inl rfl, ?_⟩
          refine app0_h slTT 1 H7 rfl (l2 _ H7.mod) s2 (by simp; omega) (by simp) (by simp [e0, e5, rL]) ?_
          intro v34 w8 H8
          refine ⟨.inl rfl, ?_⟩
          simp
          exact fin _ _ (H8.drop 2)
      · refine bs_h slTT [dnV x] HD rfl (by simp) (by simp [cc, dnV]) (by simp [dnV, Value.cells]) ?_
        intro v29 w4 H4 M4
        refine ⟨.inl rfl, ?_⟩
        refine bs_h slTT [] H4 rfl (by omega) (by simp) (by simp) ?_
        intro v23 w6 H6 M6
        refine ⟨.inl rfl, ?_⟩
        replace H6 : Hp w w6 [.blk b #[.int .i64 x.wt, x.v], .own 70 2 v29 [x].length (thV [x]), .own 70 2 v23 ([] : List Dn).length (thV [])] := H6
        refine app0_h slTT 2 H6 rfl (l1 _ H6.mod) s1 (by simp; omega) (by simp) (by simp [e0, e5]) ?_
        intro v27 w5 H5
        refine ⟨.inl rfl, ?_⟩
        refine app0_h slTT 2 H5 rfl (H5.rd 1 rfl) sx (by simp; omega) (by simp) (by simp) ?_
        intro v30 w7 H7
        refine ⟨.inl rfl, ?_⟩
        refine app0_h slTT 2 H7 rfl (l2 _ H7.mod) s2 (by simp; omega) (by simp) (by simp [e0, e5, rL]) ?_
        intro v34 w8 H8
        refine ⟨.inl rfl, ?_⟩
        simp
        exact fin _ _ (H8.drop 1)
    · rintro env w3 ⟨r, e4, H⟩
      simp [e4]
      refine ⟨z, hz, by rw [hQ]; exact hlt, hz2, ?_⟩
      rw [hP, hQ]
      have e1 : min z R.length = Pp.length := by rw [← hP, List.length_take]
      have e2 : R.length - z = Qq.length := by rw [← hQ, List.length_drop]
      rw [e1, e2]
      simpa using H

end Go.Proofs.Ytgjnfajdejkkjaa.VG
