/-
  Match: the law of the least cost.
-/
import Derived.Test.YtfanamibkgkaiaaDoorDt
namespace Go.Proofs.YtfanamibkgkaiaaDoor.VG
open Go
set_option linter.unusedSimpArgs false
set_option linter.unusedVariables false
set_option maxRecDepth 20000

set_option maxHeartbeats 8000000 in
theorem msome_c {G : Nat → Prop} {w : World} {t : Nat} {v : Value} {l : List Int} (h : Tp w t v l.length) (hr : Rd G w v l.length (intsV l)) (hg : ¬ G t) (hl : l.length ≤ maxLen) (most : Nat) (hm : most ≤ 1000) :
    Calls Tryd.prog 22 [.pointer (some ⟨t, 0, none⟩), .int .i64 most].toArray w (Ret fun r w' => ∃ T : List (Int × Int × Int), T.length ≤ most ∧ TpA w t v l.length w' ∧ ∃ Gs, Sep w.heap.size w' [.own 47 3 r T.length (toksV T)] Gs) := by
  refine F_sound c22 (by simp [fc22]) ?_
  have H := Hp.openG h
  have wm : IntKind.i64.wrap ((most : Int) + 1) = (most : Int) + 1 := wI (by omega) (by omega)
  obtain ⟨i3, hi3, hz3⟩ := info47
  simp [fc22, s22]
  refine call_h (next_c h hr hg hl ((most : Int) + 1) (by omega)) (by simp [wm]) ?_
  rintro r w1 ⟨nn, rfl, k0, k1, A⟩
  obtain ⟨_, _, _, up⟩ := H.tp 0 rfl
  replace H := up _ A
  have k1' := k1 (by omega)
  obtain ⟨K, rfl⟩ : ∃ n : Nat, nn = n := ⟨nn.toNat, by omega⟩
  have hnm : K ≤ most := by omega
  have hrd : ∀ (p : List It) (w' : World), Hp (bare w) w' (.tp t v l.length :: .old w (fun k => k = t) :: p) → Tp w' t v l.length ∧ Rd G w' v l.length (intsV l) := by
    intro p w' H
    obtain ⟨hT, _, _, _⟩ := H.tp 0 rfl
    exact ⟨hT, hr.mod (H.shutG tp_only).2.1 (fun k hk hk' => hg (hk' ▸ hk))⟩
  simp
  replace H : Hp (bare w) w1 [.tp t v l.length, .old w (fun k => k = t), .own 47 3 (.slice none 0 0) 0 []] := H.nilS
  refine for_r K (fun i env' w' => env' 0 = .pointer (some ⟨t, 0, none⟩) ∧ env' 7 = .int .i64 ((K : Int) - i) ∧ ∃ (n : Nat) (T : List (Int × Int × Int)), T.length = i ∧ n ≤ 23 * i ∧ env' 6 = .int .i64 n ∧ Hp (bare w) w' [.tp t v l.length, .old w (fun k => k = t), .own 47 3 (env' 5) T.length (toksV T)]) ?_ ?_ ?_
  · refine ⟨by simp, by simp, 0, [], rfl, by omega, by simp, ?_⟩
    exact H
  · clear H A k1 k1' up
    rintro i env w2 hi ⟨e0, e7, n, T, hT0, hn, e6, H⟩
    have wi : IntKind.i64.wrap ((K : Int) - i - 1) = (K : Int) - (i + 1) := by rw [wI (by omega) (by omega)]; omega
    generalize hrv : env 5 = rv at *
    simp [e7]
    refine ite_r (t := true) (by simp; omega) (fun _ => ?_) (fun h => by cases h)
    simp [wp_blk, e6]
    refine ifg_cut (fun env' w' => env' 0 = .pointer (some ⟨t, 0, none⟩) ∧ env' 5 = rv ∧ env' 6 = .int .i64 n ∧ env' 7 = .int .i64 ((K : Int) - i) ∧ env' 19 = .bool (decide (0 < n)) ∧ (0 < n → ∃ k, env' 21 = .int .i64 k) ∧ Hp (bare w) w' [.tp t v l.length, .old w (fun k => k = t), .own 47 3 rv T.length (toksV T)]) (t := decide (0 < n)) ?_ ?_ ?_ ?_
    · simp
    · intro _
      obtain ⟨hT, hR⟩ := hrd _ _ H
      obtain ⟨_, _, _, up⟩ := H.tp 0 rfl
      refine call_h (next_c hT hR hg hl 2 (by omega)) (by simp [e0]) ?_
      rintro r w3 ⟨k, rfl, _, _, A⟩
      replace H := up _ A
      simp [e0, e6, e7, hrv]
      exact H
    · intro hno
      have hz : ¬ 0 < n := by simpa using hno
      simp [e0, e6, e7, hrv]
      exact ⟨fun h => absurd h hz, H⟩
    clear H e0 e6 e7 hrv
    rintro env w3 ⟨e0, e5, e6, e7, e19, e21, H⟩
    have hev : ∃ tt : Bool, (tt = true → 0 < n) ∧ (E.gd (.vr 19) true (.bn (.cm .eql .i64) (.vr 21) (.cn (.int .i64 0)))).ok env w3 ∧ (E.and (.vr 19) (.bn (.cm .eql .i64) (.vr 21) (.cn (.int .i64 0)))).ok env w3 ∧ (E.and (.vr 19) (.bn (.cm .eql .i64) (.vr 21) (.cn (.int .i64 0)))).ev env w3 = .bool tt := by
      by_cases hz : 0 < n
      · obtain ⟨k, hk⟩ := e21 hz
        exact ⟨k == 0, fun _ => hz, by simp [e19, hk], by simp [e19, hk], by simp [e19, hk, hz]⟩
      · exact ⟨false, (fun h => by cases h), by simp [e19, hz], by simp [e19, hz], by simp [e19, hz]⟩
    obtain ⟨tt, ht0, ht1, ht2, ht3⟩ := hev
    refine chk_s ht1 ?_
    refine chk_s ht2 ?_
    refine set_s ht3 ?_
    refine ite_cut (fun env' w' => env' 0 = .pointer (some ⟨t, 0, none⟩) ∧ env' 7 = .int .i64 ((K : Int) - i) ∧ ∃ (n' : Nat) (T' : List (Int × Int × Int)), T'.length = i + 1 ∧ n' ≤ 23 * (i + 1) ∧ env' 6 = .int .i64 n' ∧ Hp (bare w) w' [.tp t v l.length, .old w (fun k => k = t), .own 47 3 (env' 5) T'.length (toksV T')]) (t := tt) (by simp) ?_ ?_ ?_
    · intro htt
      have hz := ht0 htt
      obtain ⟨hT, hR⟩ := hrd _ _ H
      obtain ⟨_, _, _, up⟩ := H.tp 0 rfl
      refine call_h (next_c hT hR hg hl 20 (by omega)) (by simp [e0]) ?_
      rintro r w4 ⟨x, rfl, x0, x1, A⟩
      replace H := up _ A
      have x1' := x1 (by omega)
      obtain ⟨X, hX⟩ : ∃ X : Nat, 3 + x = X := ⟨(3 + x).toNat, by omega⟩
      have wX : IntKind.i64.wrap (3 + x) = (X : Int) := by rw [wI (by omega) (by omega)]; omega
      obtain ⟨hT, hR⟩ := hrd _ _ H
      obtain ⟨_, _, _, up⟩ := H.tp 0 rfl
      simp
      refine call_h (next_c hT hR hg hl (n : Int) (by omega)) (by simp [e0, e6]) ?_
      rintro r w5 ⟨y, rfl, y0, y1, A2⟩
      replace H := up _ A2
      have y1' := y1 (by omega)
      have wY : IntKind.i64.wrap (1 + y) = 1 + y := wI (by omega) (by omega)
      have wn : IntKind.i64.wrap ((n : Int) + X) = ((n + X : Nat) : Int) := by rw [wI (by omega) (by omega)]; omega
      simp [putAt, Value.cells]
      refine alloc_h H hi3 hz3 ?_
      intro b w6 H M6
      refine ⟨.inl rfl, ?_⟩
      refine stAll_h 3 H rfl (v := tokV ((X : Int), 1 + y, 0)) rfl (by simp [tokV, putAt, Value.cells, wX, wY]) rfl rfl (tokC_one _) ?_
      intro w7 H
      refine ⟨.inl rfl, ?_⟩
      replace H : Hp (bare w) w7 [.tp t v l.length, .old w (fun k => k = t), .own 47 3 rv T.length (toksV T), .blk b #[.int .i64 X, .int .i64 (1 + y), .int .i64 0]] := H
      replace H := H.drew
      obtain ⟨dd, dok, c0, c1, c2⟩ := blk3 (H.blk 3 rfl)
      have c0' := c0
      simp only [cellsFrom_drew, cell_drew] at dd dok c0
      simp [dd, c0, e6]
      refine ⟨dok, ?_⟩
      refine appN_h slTT 2 H rfl (u := tokV ((X : Int), 1 + y, 0)) (by omega) rfl (tokC_one _) (by omega) (by unfold maxLen; omega) (by simp [tokV]) (by simp [e5]) (by simp) (.inr fun w' M' => by simp [promsOk, promOk]; exact same_one c0' (M'.cell c0' (fun h => h))) ?_
      intro vb v' w8 w9 M8 H
      have c9 := (blk3 (H.blk 3 rfl)).2.2.1
      refine ⟨.inr (by simp [promsOk, promOk]; exact same_one (M8.cell c0' (fun h => h)) c9), ?_⟩
      simp only [List.set_cons_succ, List.set_cons_zero] at H
      rw [tokV_cells, toksV_snoc] at H
      replace H := H.drop 3
      simp [e0, e6, e7, wn, -Int.natCast_add]
      exact ⟨n + X, T ++ [((X : Int), 1 + y, 0)], by simp [hT0], by omega, rfl, by simpa using H⟩
    · intro _
      obtain ⟨hT, hR⟩ := hrd _ _ H
      obtain ⟨_, _, _, up⟩ := H.tp 0 rfl
      have wn : IntKind.i64.wrap ((n : Int) + 1) = ((n + 1 : Nat) : Int) := by rw [wI (by omega) (by omega)]; omega
      refine call_h (next_c hT hR hg hl 16 (by omega)) (by simp [e0]) ?_
      rintro r w4 ⟨x, rfl, x0, x1, A⟩
      replace H := up _ A
      simp [Value.cells, putAt]
      refine appN_h slTT 2 H rfl (u := tokV (0, 0, x)) (by omega) rfl (tokC_one _) (by omega) (by unfold maxLen; omega) (by simp [tokV, putAt, Value.cells]) (by simp [e5]) (by simp) (.inl rfl) ?_
      intro vb v' w8 w9 M8 H
      refine ⟨.inl rfl, ?_⟩
      simp only [List.set_cons_succ, List.set_cons_zero] at H
      rw [tokV_cells, toksV_snoc] at H
      simp [e0, e6, e7, wn, -Int.natCast_add]
      exact ⟨n + 1, T ++ [(0, 0, x)], by simp [hT0], by omega, rfl, by simpa using H⟩
    · clear H e0 e5 e6 e7 e19 e21 ht0 ht1 ht2 ht3
      rintro env w6 ⟨e0, e7, n', T', h1, h2, e6, H⟩
      simp [e0, e7, wi]
      exact ⟨n', T', h1, h2, e6, H⟩
  · clear H A k1 k1' up
    rintro env w2 ⟨e0, e7, n, T, hT0, hn, e6, H⟩
    simp [e7]
    refine ite_r (t := false) (by simp) (fun h => by cases h) (fun _ => ?_)
    simp
    obtain ⟨q1, q2, q3⟩ := H.shutG tp_only
    exact ⟨T, by omega, ⟨q1, q2⟩, q3⟩

set_option maxHeartbeats 8000000 in
theorem mleast_law {w : World} (hP : Pts w) {tv : Value} {t : List Int} (lit cp : Int) (ht : Rd (fun k => k < w.heap.size) w tv t.length (intsV t)) (hm : t.length ≤ maxLen) :
    Calls Tryd.prog 6 [tv, .int .i64 lit, .int .i64 cp].toArray w (Ret fun r w' => r = .bool true ∧ Mod none' w w') := by
  refine F_sound c6 (by simp [fc6]) ?_
  simp [fc6, s6]
  refine call_h (tnew_c t.length ht.cells1) (by simp) ?_
  rintro r w1 ⟨b, rfl, H⟩
  simp
  obtain ⟨hT, hlow, upR, up⟩ := H.tp 0 rfl
  have hg : ¬ (b < w.heap.size) := by omega
  refine call_h (msome_c hT (ht.at H.mod) hg hm 12 (by omega)) (by simp) ?_
  rintro Wv w2 ⟨T, hTl, A, hs⟩
  replace H := upR _ _ A hs
  replace H : Hp w w2 [.own 47 3 Wv T.length (toksV T)] := H.drop 0
  clear A hs up upR hT
  simp
  refine call_h (expand2_c (H.rd 0 rfl) (by omega) 400 (by omega) (by omega)) (by simp) ?_
  rintro r w3 ⟨lv, rfl, h3⟩
  replace H := H.join h3
  cases hok : (exR T 400).2
  · simp
    refine ite_r (t := true) (by simp) (fun _ => ?_) (fun h => by cases h)
    simp
    exact H.mod
  obtain ⟨l, hl⟩ : ∃ l, l = (exR T 400).1 := ⟨_, rfl⟩
  have htell := exR_tells (T := T) (most := 400) (l := l) (Prod.ext hl.symm hok)
  obtain ⟨htl, hlen⟩ := htell
  have hl400 : l.length ≤ 400 := by
    rcases hlen with h | h
    · omega
    · rw [h]; simp
  rw [← hl] at H
  replace H : Hp w w3 [.own 47 3 Wv T.length (toksV T), .own 3 1 lv l.length (intsV l)] := H
  simp
  refine ite_r (t := false) (by simp) (fun h => by cases h) (fun _ => ?_)
  refine callp (within_c lit 1 50 (by omega) (by omega) (by omega)) (by simp) ?_
  refine callp (within_c cp 1 50 (by omega) (by omega) (by omega)) (by simp) ?_
  have bx := with_bd (n := lit) (lo := 1) (hi := 50) (by omega)
  have by' := with_bd (n := cp) (lo := 1) (hi := 50) (by omega)
  generalize withI lit 1 50 = x at *
  generalize withI cp 1 50 = y at *
  have hLb : leastBad x y = false := by simp [leastBad]; omega
  have hCb : costBad x y = false := by simp [costBad]; omega
  have hLI : leastI l x y = leastL l x y := by rw [leastI, if_neg (by simp [hLb])]
  have tm := least_tells l x y
  have lm := tm.ge
  have hle := least_le (lit := x) (cp := y) htl
  simp
  refine call_h (least_c (H.rd 1 rfl).low (fun k hk => hk) (by omega) x y) (by simp) ?_
  rw [hLI]
  intro mv w4 h4
  replace H := H.join h4
  simp
  refine callm (cost_c (H.rd 2 rfl) (by omega) x y) (by simp (disch := omega) [wI, wU, tmod_nn, tdiv_nn, env0_0, env0_1, env0_2, env0_3, env0_4, env0_5, -env0_apply]) ?_
  intro w' M'
  replace H := H.same M'
  rw [cost_tells tm hCb]
  simp
  refine callm (cost_c (H.rd 0 rfl) (by omega) x y) (by simp (disch := omega) [wI, wU, tmod_nn, tdiv_nn, env0_0, env0_1, env0_2, env0_3, env0_4, env0_5, -env0_apply]) ?_
  intro w' M'
  replace H := H.same M'
  rw [cost_tells htl hCb]
  simp [hle]
  refine ifg_r (t := true) (by simp) (fun _ => ?_) (fun h => (h rfl).elim)
  refine callm (mknown_c (hP.at H.mod)) (by simp (disch := omega) [wI, wU, tmod_nn, tdiv_nn, env0_0, env0_1, env0_2, env0_3, env0_4, env0_5, -env0_apply]) ?_
  intro w' M'
  replace H := H.same M'
  simp
  exact H.mod

end Go.Proofs.YtfanamibkgkaiaaDoor.VG
