/-
  Long: Tune, the program's and the document's; the law LongFinds.
-/
import Derived.Test.YtdpnaaggjgmaiaaLg
import Derived.Test.YtdpnaaggjgmaiaaEq
namespace Go.Proofs.Ytdpnaaggjgmaiaa.VG
open Go
set_option linter.unusedSimpArgs false
set_option linter.unusedVariables false

def tabAt (i : Nat) : List Int := tabL.getD i [0, 0, 0]
def asum (l : List Int) : Nat → Int
  | 0 => 0
  | i + 1 => asum l i + ((gi l i).natAbs : Int)
def tuneF (l : List Int) (lag : Int) : Nat → Option (Nat × Int)
  | 0 => none
  | i + 1 => if (restS l lag (tabAt i)).2 = 0 then
      (match tuneF l lag i with
      | none => some (i, asum (restS l lag (tabAt i)).1 (restS l lag (tabAt i)).1.length)
      | some (j, s) => if asum (restS l lag (tabAt i)).1 (restS l lag (tabAt i)).1.length < s then some (i, asum (restS l lag (tabAt i)).1 (restS l lag (tabAt i)).1.length) else some (j, s))
    else tuneF l lag i
def tuneS (l : List Int) (lag : Int) : List Int × Int :=
  if lag < 2 ∨ 1024 < lag then ([0, 0, 0], 1) else match tuneF l lag 9 with
    | none => ([0, 0, 0], 6)
    | some (j, _) => (tabAt j, 0)

theorem tabAt_taps (i : Nat) : Taps (tabAt i) := by
  unfold tabAt Taps
  rw [List.getD_eq_getElem?_getD]
  by_cases h : i < tabL.length
  · rw [List.getElem?_eq_getElem h]
    have : ∀ x ∈ tabL, x.length = 3 := by decide
    exact this _ (List.getElem_mem h)
  · rw [List.getElem?_eq_none (by omega)]; rfl
theorem tab_flat : ∀ (tb : List (List Int)) (i k : Nat), (∀ x ∈ tb, x.length = 3) → i < tb.length → k < 3 → (tb.flatMap intsV)[i * 3 + k]? = some (.int .i64 (gi (tb.getD i [0, 0, 0]) k))
  | [], i, k, _, h, _ => by simp at h
  | x :: r, 0, k, hx, h, hk => by
    have := hx x (List.mem_cons_self ..)
    rw [List.flatMap_cons, List.getElem?_append_left (by simp [intsV, this]; omega)]
    simp [intsV, gi, this, hk]
  | x :: r, i + 1, k, hx, h, hk => by
    have h3 := hx x (List.mem_cons_self ..)
    rw [List.flatMap_cons, List.getElem?_append_right (by simp [intsV, h3]; omega)]
    rw [show (i + 1) * 3 + k - (intsV x).length = i * 3 + k by simp [intsV, h3]; omega]
    rw [tab_flat r i k (fun y hy => hx y (List.mem_cons_of_mem _ hy)) (by simpa using h) hk]
    rfl
theorem tab_cells {W w w' : World} {r : Value} {L : List It} (j : Nat) (H : Hp W w' L) (hj : L[j]? = some (.own 23 3 r 9 (tabL.flatMap intsV))) (i : Nat) (hi : i < 9) :
    (isS r ∧ slL r = 9 ∧ (slA r).isSome = true) ∧ (∀ k, k < 3 → w'.cell? ((slB r).add (i * 3 + k)) = some (.int .i64 (gi (tabAt i) k))) ∧ (cellsFrom w' ((slB r).add (i * 3)) 0 3).toArray = (intsV (tabAt i)).toArray := by
  have hr := H.rd j hj
  have hc : ∀ k, k < 3 → w'.cell? ((slB r).add (i * 3 + k)) = some (.int .i64 (gi (tabAt i) k)) := fun k hk => hr.cell _ _ (tab_flat tabL i k (by decide) hi hk)
  refine ⟨⟨hr.sl.1, hr.sl.2, (hr.ptr (by decide)).1⟩, hc, ?_⟩
  have h0 := hc 0 (by omega)
  have h1 := hc 1 (by omega)
  have h2 := hc 2 (by omega)
  rw [Nat.add_zero] at h0
  simp only [cellsFrom, add_add, Nat.add_zero, h0, h1, h2, Option.getD_some, Nat.zero_add, Nat.reduceAdd]
  rw [may_t (tabAt i) (tabAt_taps i)]
  rfl
theorem restS_wide (l : List Int) (lag : Int) (t : List Int) : allW (restS l lag t).1 = true := by
  unfold restS
  split
  · rfl
  split
  · rfl
  split
  · rfl
  · rename_i h; simpa using h
theorem asum_bd {l : List Int} (h : allW l = true) : ∀ i, i ≤ l.length → 0 ≤ asum l i ∧ asum l i ≤ 1073741824 * (i : Int)
  | 0, _ => by simp [asum]
  | i + 1, hi => by
    have h1 := asum_bd h i (by omega)
    have h2 := allW_gi h i (by omega)
    simp only [asum]; omega
theorem tuneF_bd (l : List Int) (lag : Int) (hl : l.length ≤ 1000000) : ∀ i j s, tuneF l lag i = some (j, s) → j < i ∧ 0 ≤ s ∧ s ≤ 1073741824000000
  | i + 1, j, s, h => by
    have hb := asum_bd (restS_wide l lag (tabAt i)) (restS l lag (tabAt i)).1.length (Nat.le_refl _)
    have hn := restS_len l lag (tabAt i)
    simp only [tuneF] at h
    split at h
    · split at h
      · simp only [Option.some.injEq, Prod.mk.injEq] at h
        obtain ⟨rfl, rfl⟩ := h
        omega
      · rename_i j' s' hj
        have := tuneF_bd l lag hl i j' s' hj
        split at h
        · simp only [Option.some.injEq, Prod.mk.injEq] at h
          obtain ⟨rfl, rfl⟩ := h
          omega
        · simp only [Option.some.injEq, Prod.mk.injEq] at h
          obtain ⟨rfl, rfl⟩ := h
          omega
    · have := tuneF_bd l lag hl i j s h
      omega

theorem total_c {G : Nat → Prop} {w : World} {v : Value} {l : List Int} (h : Rd G w v l.length (intsV l)) (hl : l.length ≤ 1000000) (ha : allW l = true) :
    Calls Try.prog 31 [v, .int .i64 0].toArray w (Ret fun r w' => r = .int .i64 (asum l l.length) ∧ Mod none' w w') := by
  refine F_sound c31 (by simp [fc31]) ?_
  obtain ⟨hS, hL⟩ := h.sl
  simp [fc31, s31]
  refine for_r l.length (fun i env' w' => env' 0 = v ∧ env' 5 = .int .i64 (asum l i) ∧ env' 6 = .int .i64 i ∧ Mod none' w w') ?_ ?_ ?_
  · simp [asum, Mod.refl]
  · rintro i env w' hi ⟨e0, e5, e6, m⟩
    have hc := (h.at m).gi i hi
    have hp := h.some (by omega)
    have hb := allW_gi ha i hi
    have hs := asum_bd ha i (by omega)
    simp [e0, e6, hS, hL]
    refine ite_r (t := true) (by simp [hi]) (fun _ => ?_) (fun h => by cases h)
    simp [wp_blk, e0, e6, hS, hL, hp, hc, hi]
    refine callp (far_c (gi l i) (by omega) (by omega)) (by simp) ?_
    simp (disch := omega) [wI, wU, tmod_nn, tdiv_nn, env0_0, env0_1, env0_2, env0_3, env0_4, env0_5, -env0_apply, e0, e5, e6]
    exact ⟨rfl, m⟩
  · rintro env w' ⟨e0, e5, e6, m⟩
    simp [e0, e6, hS, hL]
    refine ite_r (t := false) (by simp) (fun h => by cases h) (fun _ => ?_)
    simp [e5, m]

def ArrErr (w w' : World) (r : Value) (s : List Int × Int) : Prop := r = .tuple #[tapV s.1, .int .i64 s.2] ∧ Mod none' w w'
theorem zeroT : (Value.agg #[.int .i64 0, .int .i64 0, .int .i64 0]) = tapV [0, 0, 0] := rfl
theorem tap_cells {t : List Int} (ht : Taps t) : (tapV t).cells.size = 3 ∧ (∀ x ∈ (tapV t).cells.toList, one1 x = true) := by
  unfold Taps at ht
  refine ⟨by simp [tapV, Value.cells, intsV, ht], fun x hx => ?_⟩
  simp [tapV, Value.cells, intsV] at hx
  obtain ⟨n, _, rfl⟩ := hx
  rfl
theorem tapV_cells (t : List Int) : (tapV t).cells = (intsV t).toArray := rfl

set_option maxHeartbeats 2000000 in
theorem tune_c {G : Nat → Prop} {w : World} {v : Value} {l : List Int} (lag : Int) (h : Rd G w v l.length (intsV l)) (hl : l.length ≤ 1000000) :
    Calls Try.prog 21 [v, .int .i64 lag].toArray w (Ret fun r w' => ArrErr w w' r (tuneS l lag)) := by
  refine F_sound c21 (by simp [fc21]) ?_
  obtain ⟨hS, hL⟩ := h.sl
  have hz3 := tap_cells (t := [0, 0, 0]) rfl
  obtain ⟨i3, hi3, hz3'⟩ : ∃ i, Try.prog.info? 23 = some i ∧ i.zero = some (tapV [0, 0, 0]) := ⟨_, rfl, rfl⟩
  simp only [fc21, s21, zeroT]
  refine alloc_h (Hp.nil w) hi3 hz3' ?_
  intro b w1 H M1
  refine ⟨.inl rfl, ?_⟩
  simp
  by_cases hlag : lag < 2 ∨ 1024 < lag
  · refine ite_r (t := true) (by simp; omega) (fun _ => ?_) (fun h => by cases h)
    refine stAll_h 0 H rfl (v := tapV [0, 0, 0]) (by simp) (by simp) hz3.1 hz3.1 hz3.2 ?_
    intro w2 H
    refine ⟨.inl rfl, ?_⟩
    obtain ⟨hb, hcs⟩ := tap_box (t := [0, 0, 0]) rfl (H.blk 0 rfl)
    simp [hcs]
    exact ⟨fun j hj => by rw [hb j hj]; rfl, by simp [tuneS, hlag, tapV], H.mod⟩
  refine ite_r (t := false) (by simp; omega) (fun h => by cases h) (fun _ => ?_)
  simp
  refine alloc_h H hi3 hz3' ?_
  intro b2 w2 H M2
  refine ⟨.inl rfl, ?_⟩
  refine stAll_h 1 H rfl (v := tapV [0, 0, 0]) (by simp) (by simp) hz3.1 hz3.1 hz3.2 ?_
  intro w3 H
  refine ⟨.inl rfl, ?_⟩
  simp
  refine call_h table_c (by simp) ?_
  intro tv w4 h4
  replace H := H.join h4
  obtain ⟨hSt, hLt⟩ := (H.rd 2 rfl).sl
  simp [hSt, hLt]
  refine for_r 9 (fun i env' w' => env' 0 = v ∧ env' 1 = .int .i64 lag ∧ env' 4 = .pointer (some ⟨b, 0, none⟩) ∧ env' 6 = .pointer (some ⟨b2, 0, none⟩) ∧ env' 24 = tv ∧ env' 25 = .int .i64 9 ∧ env' 26 = .int .i64 i ∧
    ∃ t, Taps t ∧ Hp w w' [.blk b (tapV [0, 0, 0]).cells, .blk b2 (tapV t).cells, .own 23 3 tv 9 (tabL.flatMap intsV)] ∧
      (match tuneF l lag i with
      | none => env' 8 = .bool false ∧ env' 7 = .int .i64 0
      | some (j, s) => env' 8 = .bool true ∧ env' 7 = .int .i64 s ∧ t = tabAt j)) ?_ ?_ ?_
  · simp [tuneF]
    exact ⟨[0, 0, 0], rfl, H⟩
  · rintro i env w' hi ⟨e0, e1, e4, e6, e24, e25, e26, t, ht, H, hst⟩
    simp [e25, e26]
    refine ite_r (t := true) (by simp; omega) (fun _ => ?_) (fun h => by cases h)
    obtain ⟨⟨q1, q2, q3⟩, q4, q5⟩ := tab_cells (w := w) 2 H rfl i hi
    refine blk_cut (fun env2 w2 => env2 0 = v ∧ env2 1 = .int .i64 lag ∧ env2 4 = .pointer (some ⟨b, 0, none⟩) ∧ env2 6 = .pointer (some ⟨b2, 0, none⟩) ∧ env2 24 = tv ∧ env2 25 = .int .i64 9 ∧ env2 26 = .int .i64 i ∧
      ∃ t, Taps t ∧ Hp w w2 [.blk b (tapV [0, 0, 0]).cells, .blk b2 (tapV t).cells, .own 23 3 tv 9 (tabL.flatMap intsV)] ∧
      (match tuneF l lag (i + 1) with
      | none => env2 8 = .bool false ∧ env2 7 = .int .i64 0
      | some (j, s) => env2 8 = .bool true ∧ env2 7 = .int .i64 s ∧ t = tabAt j)) ?_ ?_
    · simp [e24, e26, q1, q2, q3, q5]
      refine ⟨by omega, fun j hj => by rw [add_add, q4 j hj]; rfl, ?_⟩
      refine alloc_h H hi3 hz3' ?_
      intro b3 w5 H M5
      refine ⟨.inl rfl, ?_⟩
      have htt := tap_cells (tabAt_taps i)
      refine stAll_h 3 H rfl (v := tapV (tabAt i)) (by simp) (by simp [tapV]) htt.1 hz3.1 htt.2 ?_
      intro w6 H
      refine ⟨.inl rfl, ?_⟩
      obtain ⟨hb, hcs⟩ := tap_box (tabAt_taps i) (H.blk 3 rfl)
      simp [hcs]
      refine ⟨fun j hj => by rw [hb j hj]; rfl, ?_⟩
      refine call_h (rest_c lag (tabAt i) (h.at H.mod) hl (tabAt_taps i)) (by simp [tapV, e0, e1]) ?_
      rintro r w7 ⟨u, rfl, hu⟩
      replace H := H.join hu
      simp
      have hwS := restS_wide l lag (tabAt i)
      have hlen := restS_len l lag (tabAt i)
      have hF : tuneF l lag (i + 1) = if (restS l lag (tabAt i)).2 = 0 then
        (match tuneF l lag i with
        | none => some (i, asum (restS l lag (tabAt i)).1 (restS l lag (tabAt i)).1.length)
        | some (j, s) => if asum (restS l lag (tabAt i)).1 (restS l lag (tabAt i)).1.length < s then some (i, asum (restS l lag (tabAt i)).1 (restS l lag (tabAt i)).1.length) else some (j, s))
      else tuneF l lag i := rfl
      generalize restS l lag (tabAt i) = R at *
      obtain ⟨ru, re⟩ := R
      simp only at *
      by_cases hre : re = 0
      · subst hre
        refine ite_r (t := false) (by simp) (fun h => by cases h) (fun _ => ?_)
        have hrd := H.rd 4 rfl
        obtain ⟨hSu, hLu⟩ := hrd.sl
        simp [hSu, hLu]
        refine for_r ru.length (fun j env' w' => env' 0 = v ∧ env' 1 = .int .i64 lag ∧ env' 4 = .pointer (some ⟨b, 0, none⟩) ∧ env' 6 = .pointer (some ⟨b2, 0, none⟩) ∧ env' 10 = .pointer (some ⟨b3, 0, none⟩) ∧ env' 24 = tv ∧ env' 25 = .int .i64 9 ∧ env' 26 = .int .i64 i ∧
          env' 8 = env 8 ∧ env' 7 = env 7 ∧ env' 39 = u ∧ env' 40 = .int .i64 ru.length ∧ env' 41 = .int .i64 j ∧ env' 13 = .int .i64 (asum ru j) ∧ w' = w7) ?_ ?_ ?_
        · simp [asum, e0, e1, e4, e6, e24, e25, e26]
        · rintro j env' w' hj ⟨d0, d1, d4, d6, d10, d24, d25, d26, d8, d7, d39, d40, d41, d13, rfl⟩
          have hc := hrd.gi j hj
          have hp := hrd.some (by omega)
          have hb := allW_gi hwS j hj
          have hs := asum_bd hwS j (by omega)
          simp [d40, d41]
          refine ite_r (t := true) (by simp [hj]) (fun _ => ?_) (fun h => by cases h)
          simp (disch := omega) [wI, wU, tmod_nn, tdiv_nn, env0_0, env0_1, env0_2, env0_3, env0_4, env0_5, -env0_apply, wp_blk, d0, d1, d4, d6, d10, d24, d25, d26, d8, d7, d39, d40, d41, d13, hSu, hLu, hp, hc, hj, mx_abs]
          rfl
        · rintro env' w' ⟨d0, d1, d4, d6, d10, d24, d25, d26, d8, d7, d39, d40, d41, d13, rfl⟩
          simp [d40, d41]
          refine ite_r (t := false) (by simp) (fun h => by cases h) (fun _ => ?_)
          have hs := asum_bd hwS ru.length (Nat.le_refl _)
          cases hT : tuneF l lag i with
          | none =>
            rw [hT] at hst hF
            simp [hst] at d8 d7
            obtain ⟨hb, hcs⟩ := tap_box (tabAt_taps i) (H.blk 3 rfl)
            simp [d8]
            refine ite_r (t := true) (by simp) (fun _ => ?_) (fun h => by cases h)
            simp [d10, hcs]
            refine ⟨fun j hj => by rw [hb j hj]; rfl, ?_⟩
            refine stAll_h 1 H rfl (v := tapV (tabAt i)) (by simp [d6]) (by simp [tapV]) htt.1 (tap_cells ht).1 htt.2 ?_
            intro w8 H
            refine ⟨.inl rfl, ?_⟩
            simp [hF, d0, d1, d4, d6, d24, d25, d26, d13]
            exact ⟨tabAt_taps i, (H.drop 4).drop 3⟩
          | some js =>
            obtain ⟨j, s⟩ := js
            rw [hT] at hst hF
            simp [hst] at d8 d7
            simp [d8, d7, d13]
            by_cases hlt : asum ru ru.length < s
            · refine ite_r (t := true) (by simp [hlt]) (fun _ => ?_) (fun h => by cases h)
              obtain ⟨hb, hcs⟩ := tap_box (tabAt_taps i) (H.blk 3 rfl)
              simp [d10, hcs]
              refine ⟨fun j hj => by rw [hb j hj]; rfl, ?_⟩
              refine stAll_h 1 H rfl (v := tapV (tabAt i)) (by simp [d6]) (by simp [tapV]) htt.1 (tap_cells ht).1 htt.2 ?_
              intro w8 H
              refine ⟨.inl rfl, ?_⟩
              simp [hF, hlt, d0, d1, d4, d6, d24, d25, d26, d13]
              exact ⟨tabAt_taps i, (H.drop 4).drop 3⟩
            · refine ite_r (t := false) (by simp; omega) (fun h => by cases h) (fun _ => ?_)
              simp [hF, hlt, d0, d1, d4, d6, d24, d25, d26, d13, d8, d7]
              obtain ⟨_, _, rfl⟩ := hst
              exact ⟨ht, (H.drop 4).drop 3⟩
      · refine ite_r (t := true) (by simpa using hre) (fun _ => ?_) (fun h => by cases h)
        simp [hF, hre, e0, e1, e4, e6, e24, e25, e26]
        refine ⟨t, ht, (H.drop 4).drop 3, ?_⟩
        simpa using hst
    · rintro env2 w2 ⟨e0, e1, e4, e6, e24, e25, e26, t, ht, H, hst⟩
      simp (disch := omega) [wI, wU, tmod_nn, tdiv_nn, env0_0, env0_1, env0_2, env0_3, env0_4, env0_5, -env0_apply, e0, e1, e4, e6, e24, e25, e26]
      refine ⟨t, ht, H, ?_⟩
      simpa using hst
  · rintro env w' ⟨e0, e1, e4, e6, e24, e25, e26, t, ht, H, hst⟩
    simp [e25, e26]
    refine ite_r (t := false) (by simp) (fun h => by cases h) (fun _ => ?_)
    cases hT : tuneF l lag 9 with
    | none =>
      rw [hT] at hst
      simp [hst]
      refine ite_r (t := true) (by simp) (fun _ => ?_) (fun h => by cases h)
      refine stAll_h 0 H rfl (v := tapV [0, 0, 0]) (by simp [e4]) (by simp) hz3.1 hz3.1 hz3.2 ?_
      intro w2 H
      refine ⟨.inl rfl, ?_⟩
      obtain ⟨hb, hcs⟩ := tap_box (t := [0, 0, 0]) rfl (H.blk 0 rfl)
      simp [hcs, e4]
      exact ⟨fun j hj => by rw [hb j hj]; rfl, by simp [tuneS, hlag, hT, tapV], H.mod⟩
    | some js =>
      obtain ⟨j, s⟩ := js
      rw [hT] at hst
      simp [hst]
      refine ite_r (t := false) (by simp) (fun h => by cases h) (fun _ => ?_)
      obtain ⟨hb, hcs⟩ := tap_box ht (H.blk 1 rfl)
      simp [e6, hcs]
      refine ⟨fun j hj => by rw [hb j hj]; rfl, ?_⟩
      refine stAll_h 0 H rfl (v := tapV t) (by simp [e4]) (by simp [tapV]) (tap_cells ht).1 hz3.1 (tap_cells ht).2 ?_
      intro w2 H
      refine ⟨.inl rfl, ?_⟩
      obtain ⟨hb, hcs⟩ := tap_box ht (H.blk 0 rfl)
      simp [hcs, e4]
      exact ⟨fun j hj => by rw [hb j hj]; rfl, by simp [tuneS, hlag, hT, tapV, hst], H.mod⟩

end Go.Proofs.Ytdpnaaggjgmaiaa.VG
