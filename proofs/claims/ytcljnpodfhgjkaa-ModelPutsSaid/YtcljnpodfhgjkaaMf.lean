/-
  Model: Learn.
-/
import Derived.Test.YtcljnpodfhgjkaaMe
namespace Go.Proofs.Ytcljnpodfhgjkaa.VG
open Go
set_option linter.unusedSimpArgs false
set_option linter.unusedVariables false
set_option maxRecDepth 20000

theorem up4_id (f : Nat → Int) (o : Nat) : up4 f o (f o) (f (o + 1)) (f (o + 2)) (f (o + 3)) = f := by
  funext i
  simp only [up4, upF]
  (repeat' split) <;> (try subst_vars) <;> rfl
theorem u4s0 (f : Nat → Int) (N o : Nat) (a b c d x : Int) : (cellsF (up4 f o a b c d) N).setIfInBounds o (.int .i64 x) = cellsF (up4 f o x b c d) N := by
  rw [cellsF_set]; congr 1; funext i; simp only [up4, upF]; (repeat' split) <;> first | rfl | omega
theorem u4s1 (f : Nat → Int) (N o : Nat) (a b c d x : Int) : (cellsF (up4 f o a b c d) N).setIfInBounds (o + 1) (.int .i64 x) = cellsF (up4 f o a x c d) N := by
  rw [cellsF_set]; congr 1; funext i; simp only [up4, upF]; (repeat' split) <;> first | rfl | omega
theorem u4s2 (f : Nat → Int) (N o : Nat) (a b c d x : Int) : (cellsF (up4 f o a b c d) N).setIfInBounds (o + 2) (.int .i64 x) = cellsF (up4 f o a b x d) N := by
  rw [cellsF_set]; congr 1; funext i; simp only [up4, upF]; (repeat' split) <;> first | rfl | omega
theorem u4s3 (f : Nat → Int) (N o : Nat) (a b c d x : Int) : (cellsF (up4 f o a b c d) N).setIfInBounds (o + 3) (.int .i64 x) = cellsF (up4 f o a b c x) N := by
  rw [cellsF_set]; congr 1; funext i; simp only [up4, upF]; (repeat' split) <;> first | rfl | omega
theorem Hp.quad {W w : World} {l : List It} (h : Hp W w l) (j : Nat) {t N o : Nat} {f : Nat → Int} {a b c d : Int} (hj : l[j]? = some (.blk t (cellsF (up4 f o a b c d) N))) (ho : o + 4 ≤ N) :
    w.cell? ⟨t, o, none⟩ = some (.int .i64 a) ∧ w.cell? ⟨t, o + 1, none⟩ = some (.int .i64 b) ∧ w.cell? ⟨t, o + 2, none⟩ = some (.int .i64 c) ∧ w.cell? ⟨t, o + 3, none⟩ = some (.int .i64 d) := by
  have hb := h.blk j hj
  obtain ⟨u0, u1, u2, u3, _⟩ := up4_at f o a b c d
  refine ⟨?_, ?_, ?_, ?_⟩
  · rw [hb, cellsF_get _ (by omega), u0]
  · rw [hb, cellsF_get _ (by omega), u1]
  · rw [hb, cellsF_get _ (by omega), u2]
  · rw [hb, cellsF_get _ (by omega), u3]

theorem shr1 (x : Int) : shr .i64 x 1 = x / 2 := by
  have := shr_int .i64 x 1 (by simp only [IntKind.bits]; omega)
  simpa using this

set_option maxHeartbeats 4000000 in
theorem learn_c {w : World} {t : Nat} {f : Nat → Int} (h : Md w t f) (hf : Wf f) (c e : Int) : Calls Try.prog 19 [.pointer (some ⟨t, 0, none⟩), .int .i64 c, .int .i64 e].toArray w (Ret fun r w' => MdA w t (lrn f c e) w') := by
  refine F_sound c19 (by simp [fc19]) ?_
  have hd' := dep_iff.1 hf.1
  have hp := p2_bd (d := f 0 - 1) (by omega)
  have hs := shl_p2 (d := f 0 - 1) (by omega) (by omega)
  have cz := h.cell (o := 0) (by omega)
  have w1 : IntKind.i64.wrap (f 0 - 1) = f 0 - 1 := wI (by omega) (by omega)
  have w2 : IntKind.i64.wrap (-(p2 (f 0 - 1))) = -(p2 (f 0 - 1)) := wI (by omega) (by omega)
  simp [fc19, s19, cz, hs, w1]
  refine ⟨by omega, ?_⟩
  refine callp (is_c c) (by simp) ?_
  by_cases hok : isC c = true ∧ isE (f 0) e = true
  rotate_left
  · rw [lrn, if_neg hok]
    cases hc : isC c
    · simp
      refine ite_r (t := true) (by simp) (fun _ => ?_) (fun h => by cases h)
      simp
      exact ⟨h, (Mod.refl _ _)⟩
    · have : ¬ (-(p2 (f 0 - 1)) ≤ e ∧ e < p2 (f 0 - 1)) := fun h => hok ⟨hc, isE_iff.2 h⟩
      simp [w2]
      refine ite_r (t := true) (by simp; omega) (fun _ => ?_) (fun h => by cases h)
      simp
      exact ⟨h, (Mod.refl _ _)⟩
  rw [lrn, if_pos hok]
  obtain ⟨hc, he⟩ := hok
  have he := isE_iff.1 he
  obtain ⟨C, rfl⟩ : ∃ C : Nat, c = C := ⟨c.toNat, by have := isC_iff.1 hc; omega⟩
  have hC := isC_iff.1 hc
  have eO : ctxO C = 1 + C * 4 := by unfold ctxO; rw [Int.toNat_natCast]
  have hw := hf.2 C (by omega)
  rw [eO]
  have hp2 : p2 (f 0 - 1) ≤ 65536 := hp.2
  have H := Hp.openG h
  rw [← up4_id f (1 + C * 4)] at H
  have hsh := fun R w' => Hp.shutG (w := w) (w' := w') (F := fun k => k = t) (i := .blk t (cellsF (up4 f (1 + C * 4) (lnN (f (1 + C * 4))) (lnA (f (1 + C * 4)) (f (1 + C * 4 + 1)) e) (lnB (f (1 + C * 4)) (f (1 + C * 4 + 2)) e) (lnC (f (1 + C * 4)) (f (1 + C * 4 + 2)) (f (1 + C * 4 + 3)) e)) 1461)) (R := R) (fun F' hF => hF.2)
  simp [hc, w2]
  refine ite_r (t := false) (by simp; omega) (fun h => by cases h) (fun _ => ?_)
  simp
  refine ⟨by omega, ?_⟩
  have hO4 : 1 + C * 4 + 4 ≤ 1461 := by omega
  generalize 1 + C * 4 = O at *
  generalize f O = n at *
  generalize f (O + 1) = a at *
  generalize f (O + 2) = b at *
  generalize f (O + 3) = q at *
  obtain ⟨c0, c1, c2, c3⟩ := (Hp.same H (Mod.refl _ w)).quad 0 rfl hO4
  replace H := H.drew
  simp [c0, c1, c2, c3]
  have hfb := farM_bd (x := e) (by omega)
  unfold WfS at hw
  have v1 : IntKind.i64.wrap (a + farI e) = a + farI e := wI (by omega) (by omega)
  have v2 : IntKind.i64.wrap (b + e) = b + e := wI (by omega) (by omega)
  refine call_r _ (abs_c e (by omega)) rfl ?_
  rintro r _ ⟨rfl, rfl⟩
  refine ⟨by simp [promOk, SameCells], ?_⟩
  simp [v1]
  refine st_h 0 H rfl (o := O + 1) (v := .int .i64 (a + farI e)) (by simp) (by simp [v1]) (by rw [cellsF_size]; omega) rfl ?_
  intro ws H
  rw [u4s1, List.set_cons_zero] at H
  refine ⟨.inl rfl, ?_⟩
  obtain ⟨c0, c1, c2, c3⟩ := H.quad 0 rfl hO4
  simp [c0, c1, c2, c3, v2]
  refine st_h 0 H rfl (o := O + 2) (v := .int .i64 (b + e)) (by simp) (by simp [v2]) (by rw [cellsF_size]; omega) rfl ?_
  intro ws H
  rw [u4s2, List.set_cons_zero] at H
  refine ⟨.inl rfl, ?_⟩
  obtain ⟨c0, c1, c2, c3⟩ := H.quad 0 rfl hO4
  simp [c0, c1, c2, c3]
  have hN : lnN n = if n = 64 then 33 else n + 1 := rfl
  have hA : lnA n a e = if n = 64 then (a + farI e) / 2 else a + farI e := rfl
  have hB1 : lnB1 n b e = if n = 64 then (b + e) / 2 else b + e := rfl
  have hB : lnB n b e = if lnB1 n b e ≤ -(lnN n) then mxI (lnB1 n b e + lnN n) (1 - lnN n) else if 0 < lnB1 n b e then mnI (lnB1 n b e - lnN n) 0 else lnB1 n b e := rfl
  have hCC : lnC n b q e = if lnB1 n b e ≤ -(lnN n) then mxI (q - 1) (-128) else if 0 < lnB1 n b e then mnI (q + 1) 127 else q := rfl
  have bN : 1 ≤ lnN n ∧ lnN n ≤ 64 := by rw [hN]; split <;> omega
  have bB1 : -65600 ≤ lnB1 n b e ∧ lnB1 n b e ≤ 65600 := by rw [hB1]; split <;> omega
  generalize lnB n b e = rb at *
  generalize lnC n b q e = rq at *
  refine ite_cut (fun env' w' => env' 7 = .pointer (some ⟨t, O, none⟩) ∧ Hp (bare w) w' [.blk t (cellsF (up4 f O (lnN n - 1) (lnA n a e) (lnB1 n b e) q) 1461), .old w fun k => k = t]) (t := n == 64) (by simp) ?_ ?_ ?_
  · intro hn
    have hn : n = 64 := by simpa using hn
    rw [if_pos hn] at hN hA hB1
    rw [hN, hA, hB1]
    simp [c0, c1, c2, c3, shr1]
    refine st_h 0 H rfl (o := O + 1) (v := .int .i64 ((a + farI e) / 2)) (by simp) (by simp [shr1]) (by rw [cellsF_size]; omega) rfl ?_
    intro ws H
    rw [u4s1, List.set_cons_zero] at H
    refine ⟨.inl rfl, ?_⟩
    obtain ⟨c0, c1, c2, c3⟩ := H.quad 0 rfl hO4
    simp [c0, c1, c2, c3, shr1]
    refine st_h 0 H rfl (o := O + 2) (v := .int .i64 ((b + e) / 2)) (by simp) (by simp [shr1]) (by rw [cellsF_size]; omega) rfl ?_
    intro ws H
    rw [u4s2, List.set_cons_zero] at H
    refine ⟨.inl rfl, ?_⟩
    obtain ⟨c0, c1, c2, c3⟩ := H.quad 0 rfl hO4
    simp [c0, c1, c2, c3, shr1]
    refine st_h 0 H rfl (o := O) (v := .int .i64 (n / 2)) (by simp) (by simp [shr1]) (by rw [cellsF_size]; omega) rfl ?_
    intro ws H
    rw [u4s0, List.set_cons_zero] at H
    refine ⟨.inl rfl, ?_⟩
    simp
    rw [hn] at H
    exact H
  · intro hn
    have hn : n ≠ 64 := by simpa using hn
    rw [if_neg hn] at hN hA hB1
    rw [hN, hA, hB1]
    simp
    exact H
  · rintro env ws ⟨e7, H⟩
    generalize lnN n = m at *
    generalize lnA n a e = a1 at *
    generalize lnB1 n b e = b1 at *
    obtain ⟨c0, c1, c2, c3⟩ := H.quad 0 rfl hO4
    have v3 : IntKind.i64.wrap m = m := wI (by omega) (by omega)
    have v4 : IntKind.i64.wrap (-m) = -m := wI (by omega) (by omega)
    have v5 : IntKind.i64.wrap (b1 + m) = b1 + m := wI (by omega) (by omega)
    have v6 : IntKind.i64.wrap (1 - m) = 1 - m := wI (by omega) (by omega)
    have v7 : IntKind.i64.wrap (q - 1) = q - 1 := wI (by omega) (by omega)
    have v8 : IntKind.i64.wrap (b1 - m) = b1 - m := wI (by omega) (by omega)
    have v9 : IntKind.i64.wrap (q + 1) = q + 1 := wI (by omega) (by omega)
    simp [e7, c0, c1, c2, c3, v3]
    refine st_h 0 H rfl (o := O) (v := .int .i64 m) (by simp [e7]) (by simp [v3]) (by rw [cellsF_size]; omega) rfl ?_
    intro ws H
    rw [u4s0, List.set_cons_zero] at H
    refine ⟨.inl rfl, ?_⟩
    obtain ⟨c0, c1, c2, c3⟩ := H.quad 0 rfl hO4
    replace H := H.drew
    simp [e7, c0, c1, c2, c3, v4]
    by_cases k1 : b1 ≤ -m
    · rw [if_pos k1] at hB hCC
      refine ite_r (t := true) (by simp [k1]) (fun _ => ?_) (fun h => by cases h)
      replace H := H.drew
      simp [e7, c0, c1, c2, c3, v5, v6]
      refine st_h 0 H rfl (o := O + 2) (v := .int .i64 rb) (by simp [e7]) (by simp [hB, mxI, v5, v6]) (by rw [cellsF_size]; omega) rfl ?_
      intro ws H
      rw [u4s2, List.set_cons_zero] at H
      refine ⟨.inl rfl, ?_⟩
      obtain ⟨c0, c1, c2, c3⟩ := H.quad 0 rfl hO4
      simp [e7, c0, c1, c2, c3, v7]
      refine st_h 0 H rfl (o := O + 3) (v := .int .i64 rq) (by simp [e7]) (by simp [hCC, mxI, v7]) (by rw [cellsF_size]; omega) rfl ?_
      intro ws H
      rw [u4s3, List.set_cons_zero] at H
      refine ⟨.inl rfl, ?_⟩
      simp
      obtain ⟨q1, q2, _⟩ := hsh [] ws H
      exact ⟨q1, q2⟩
    · rw [if_neg k1] at hB hCC
      refine ite_r (t := false) (by simp [k1]) (fun h => by cases h) (fun _ => ?_)
      simp [e7, c0, c1, c2, c3]
      by_cases k2 : 0 < b1
      · rw [if_pos k2] at hB hCC
        refine ite_r (t := true) (by simp [k2]) (fun _ => ?_) (fun h => by cases h)
        replace H := H.drew
        simp [e7, c0, c1, c2, c3, v8]
        refine st_h 0 H rfl (o := O + 2) (v := .int .i64 rb) (by simp [e7]) (by simp [hB, mnI, v8]) (by rw [cellsF_size]; omega) rfl ?_
        intro ws H
        rw [u4s2, List.set_cons_zero] at H
        refine ⟨.inl rfl, ?_⟩
        obtain ⟨c0, c1, c2, c3⟩ := H.quad 0 rfl hO4
        simp [e7, c0, c1, c2, c3, v9]
        refine st_h 0 H rfl (o := O + 3) (v := .int .i64 rq) (by simp [e7]) (by simp [hCC, mnI, v9]) (by rw [cellsF_size]; omega) rfl ?_
        intro ws H
        rw [u4s3, List.set_cons_zero] at H
        refine ⟨.inl rfl, ?_⟩
        simp
        obtain ⟨q1, q2, _⟩ := hsh [] ws H
        exact ⟨q1, q2⟩
      · rw [if_neg k2] at hB hCC
        refine ite_r (t := false) (by simp [k2]) (fun h => by cases h) (fun _ => ?_)
        simp
        rw [hB, hCC] at hsh
        obtain ⟨q1, q2, _⟩ := hsh [] _ H
        rw [hB, hCC]
        exact ⟨q1, q2⟩

theorem fold_same {d : Int} (hd : dep d = true) (e : Int) : (foldI e d = e) ↔ isE d e = true := by
  have h1 := dep_iff.1 hd
  have h2 := p2_two (d := d) (by omega)
  have h3 := p2_bd (d := d - 1) (by omega)
  rw [isE_iff, foldI, if_pos hd, h2]
  generalize p2 (d - 1) = h at *
  have m1 := Int.emod_nonneg e (show 2 * h ≠ 0 by omega)
  have m2 := Int.emod_lt_of_pos e (show 0 < 2 * h by omega)
  constructor
  · intro he
    split at he <;> omega
  · intro he
    by_cases h0 : 0 ≤ e
    · rw [Int.emod_eq_of_lt h0 (by omega), if_neg (by omega)]
    · have : e % (2 * h) = e + 2 * h := by
        rw [← Int.add_emod_right, Int.emod_eq_of_lt (by omega) (by omega)]
      rw [this, if_pos (by omega)]; omega

set_option maxHeartbeats 4000000 in
theorem learn2_c {w : World} {t : Nat} {f : Nat → Int} (h : Md w t f) (hf : Wf f) (c e : Int) (her : -9223372036854775808 ≤ e ∧ e ≤ 9223372036854775807) : Calls Try.prog 20 [.pointer (some ⟨t, 0, none⟩), .int .i64 c, .int .i64 e].toArray w (Ret fun r w' => MdA w t (lrn f c e) w') := by
  refine F_sound c20 (by simp [fc20]) ?_
  have hd' := dep_iff.1 hf.1
  have cz := h.cell (o := 0) (by omega)
  simp [fc20, s20]
  refine callp (is2_c c) (by simp) ?_
  cases hc : isC c
  · rw [lrn, if_neg (fun h => by rw [hc] at h; cases h.1)]
    simp
    refine ifg_r (t := true) (by simp) (fun h => by cases h) (fun _ => ?_)
    simp
    refine ite_r (t := true) (by simp) (fun _ => ?_) (fun h => by cases h)
    simp
    exact ⟨h, Mod.refl _ _⟩
  simp [cz]
  refine ifg_r (t := false) (by simp) (fun _ => ?_) (fun h => (h rfl).elim)
  refine callp (fold2_c' e (f 0)) (by simp) ?_
  have hfs := fold_same hf.1 e
  by_cases he : isE (f 0) e = true
  rotate_left
  · have hne : foldI e (f 0) ≠ e := fun h => he (hfs.1 h)
    rw [lrn, if_neg (fun h => he h.2)]
    simp
    refine ite_r (t := true) (by simp [hne]) (fun _ => ?_) (fun h => by cases h)
    simp
    exact ⟨h, Mod.refl _ _⟩
  rw [lrn, if_pos ⟨hc, he⟩, hfs.2 he]
  have he := isE_iff.1 he
  have hp := p2_bd (d := f 0 - 1) (by omega)
  obtain ⟨C, rfl⟩ : ∃ C : Nat, c = C := ⟨c.toNat, by have := isC_iff.1 hc; omega⟩
  have hC := isC_iff.1 hc
  have eO : ctxO C = 1 + C * 4 := by unfold ctxO; rw [Int.toNat_natCast]
  have hw := hf.2 C (by omega)
  rw [eO]
  have H := Hp.openG h
  have hsh := fun R w' => Hp.shutG (w := w) (w' := w') (F := fun k => k = t) (i := .blk t (cellsF (up4 f (1 + C * 4) (lnN (f (1 + C * 4))) (lnA (f (1 + C * 4)) (f (1 + C * 4 + 1)) e) (lnB (f (1 + C * 4)) (f (1 + C * 4 + 2)) e) (lnC (f (1 + C * 4)) (f (1 + C * 4 + 2)) (f (1 + C * 4 + 3)) e)) 1461)) (R := R) (fun F' hF => hF.2)
  simp
  refine ite_r (t := false) (by simp) (fun h => by cases h) (fun _ => ?_)
  have c0 := h.cell (o := 1 + C * 4) (by omega)
  have c1 := h.cell (o := 1 + C * 4 + 1) (by omega)
  have c2 := h.cell (o := 1 + C * 4 + 2) (by omega)
  have c3 := h.cell (o := 1 + C * 4 + 3) (by omega)
  have hO4 : 1 + C * 4 + 4 ≤ 1461 := by omega
  have hO : 1 + C * 4 = ctxO C := eO.symm
  generalize hn : f (1 + C * 4) = n at *
  generalize ha : f (1 + C * 4 + 1) = a at *
  generalize hb : f (1 + C * 4 + 2) = b at *
  generalize hq : f (1 + C * 4 + 3) = q at *
  unfold WfS at hw
  have hfb := farM_bd (x := e) (by omega)
  have v1 : IntKind.i64.wrap (a + farI e) = a + farI e := wI (by omega) (by omega)
  have v2 : IntKind.i64.wrap (b + e) = b + e := wI (by omega) (by omega)
  replace H := H.drew
  simp [c0, c1, c2, c3, v2]
  refine ⟨by omega, ?_⟩
  refine call_r _ (far27_c e (by omega)) rfl ?_
  rintro r _ ⟨rfl, rfl⟩
  rw [farW_is (by omega)]
  refine ⟨by simp [promOk, SameCells], ?_⟩
  simp [v1]
  have hN : lnN n = if n = 64 then 33 else n + 1 := rfl
  have hA : lnA n a e = if n = 64 then (a + farI e) / 2 else a + farI e := rfl
  have hB1 : lnB1 n b e = if n = 64 then (b + e) / 2 else b + e := rfl
  have hB : lnB n b e = if lnB1 n b e ≤ -(lnN n) then mxI (lnB1 n b e + lnN n) (1 - lnN n) else if 0 < lnB1 n b e then mnI (lnB1 n b e - lnN n) 0 else lnB1 n b e := rfl
  have hCC : lnC n b q e = if lnB1 n b e ≤ -(lnN n) then mxI (q - 1) (-128) else if 0 < lnB1 n b e then mnI (q + 1) 127 else q := rfl
  have bN : 1 ≤ lnN n ∧ lnN n ≤ 64 := by rw [hN]; split <;> omega
  have bB1 : -65600 ≤ lnB1 n b e ∧ lnB1 n b e ≤ 65600 := by rw [hB1]; split <;> omega
  generalize lnB n b e = rb at *
  generalize lnC n b q e = rq at *
  refine ite_cut (fun env' w' => env' 0 = .pointer (some ⟨t, 0, none⟩) ∧ env' 1 = .int .i64 C ∧ env' 6 = .int .i64 (lnN n - 1) ∧ env' 7 = .int .i64 (lnA n a e) ∧ env' 8 = .int .i64 (lnB1 n b e) ∧ env' 9 = .int .i64 q ∧ w' = w.drew) (t := n == 64) (by simp) ?_ ?_ ?_
  · intro hn
    have hn : n = 64 := by simpa using hn
    rw [if_pos hn] at hN hA hB1
    rw [hN, hA, hB1]
    simp [shr1, hn, v2]
  · intro hn
    have hn : n ≠ 64 := by simpa using hn
    rw [if_neg hn] at hN hA hB1
    rw [hN, hA, hB1]
    simp [v2]
  rintro env _ ⟨e0, e1, e6, e7, e8, e9, rfl⟩
  generalize lnN n = m at *
  generalize lnA n a e = a1 at *
  generalize lnB1 n b e = b1 at *
  have v3 : IntKind.i64.wrap m = m := wI (by omega) (by omega)
  have v4 : IntKind.i64.wrap (-m) = -m := wI (by omega) (by omega)
  have v5 : IntKind.i64.wrap (b1 + m) = b1 + m := wI (by omega) (by omega)
  have v6 : IntKind.i64.wrap (1 - m) = 1 - m := wI (by omega) (by omega)
  have v7 : IntKind.i64.wrap (q - 1) = q - 1 := wI (by omega) (by omega)
  have v8 : IntKind.i64.wrap (b1 - m) = b1 - m := wI (by omega) (by omega)
  have v9 : IntKind.i64.wrap (q + 1) = q + 1 := wI (by omega) (by omega)
  simp [e6, e8, v3, v4]
  refine ite_cut (fun env' w' => env' 0 = .pointer (some ⟨t, 0, none⟩) ∧ env' 1 = .int .i64 C ∧ env' 6 = .int .i64 m ∧ env' 7 = .int .i64 a1 ∧ env' 8 = .int .i64 rb ∧ env' 9 = .int .i64 rq ∧ w' = w.drew) (t := decide (b1 ≤ -m)) (by simp) ?_ ?_ ?_
  · intro k1
    have k1 : b1 ≤ -m := by simpa using k1
    rw [if_pos k1] at hB hCC
    simp [e0, e1, e6, e7, e8, e9, v5, v6, v7, hB, hCC, mxI]
  · intro k1
    have k1 : ¬ b1 ≤ -m := by simpa using k1
    rw [if_neg k1] at hB hCC
    simp [e8]
    by_cases k2 : 0 < b1
    · rw [if_pos k2] at hB hCC
      refine ite_r (t := true) (by simp [k2]) (fun _ => ?_) (fun h => by cases h)
      simp [e0, e1, e6, e7, e8, e9, v8, v9, hB, hCC, mnI]
    · rw [if_neg k2] at hB hCC
      refine ite_r (t := false) (by simp [k2]) (fun h => by cases h) (fun _ => ?_)
      simp [e0, e1, e6, e7, e8, e9, hB, hCC]
  rintro env _ ⟨e0, e1, e6, e7, e8, e9, rfl⟩
  simp [e0, e1, e6, e7, e8, e9, putAt, Value.cells]
  refine ⟨by omega, ?_⟩
  refine stN_h (b := t) (c := cellsF f 1461) 0 H rfl (o := 1 + C * 4) (v := four m a1 rb rq) (by simp [e0, e1]) (by simp [e6, e7, e8, e9, putAt, Value.cells, four]) rfl (by rw [cellsF_size]; omega) (by simp [Value.cells, four]) ?_
  intro ws H
  rw [cellsF_set4 _ (by omega)] at H
  refine ⟨.inl rfl, ?_⟩
  simp
  obtain ⟨q1, q2, _⟩ := hsh [] ws H
  exact ⟨q1, q2⟩

end Go.Proofs.Ytcljnpodfhgjkaa.VG
