/-
  Parts: a row as bits, by the document.
-/
import Derived.Test.YtajkofndbeohpaaPe
namespace Go.Proofs.Ytajkofndbeohpaa.VG
open Go
set_option linter.unusedSimpArgs false
set_option linter.unusedVariables false

set_option maxHeartbeats 1000000 in
theorem psigned_c {G F : Nat → Prop} {w : World} {b : Nat} {bs : List Bool} {v : Value} {l : List Int} (hW0 : Xr w F b bs) (hr : Rd G w v l.length (intsV l)) (hd : ∀ k, F k → ¬ G k) (hG : ∀ k, G k → k < w.heap.size) (hl : l.length ≤ 4096) (hlen : bs.length ≤ 1000000000) (W : Nat) (hW31 : W ≤ 31) :
    Calls Try.prog 51 [.pointer (some ⟨b, 0, none⟩), v, .int .i64 W].toArray w (Ret fun r w' => r = .tuple #[] ∧ XrAfter w F b (bs ++ rawB W l) w') := by
  refine F_sound c51 (by simp [fc51]) ?_
  obtain ⟨hS, hL⟩ := hr.sl
  have hwW : IntKind.u64.wrap (W : Int) = W := wU (by omega) (by omega)
  simp [fc51, s51]
  refine for_r l.length (fun j env' w' => env' 0 = .pointer (some ⟨b, 0, none⟩) ∧ env' 1 = v ∧ env' 2 = .int .i64 W ∧ env' 6 = .int .i64 j ∧ XrAfter w F b (bs ++ rawB W (l.take j)) w') ?_ ?_ ?_
  · simp [rawB]
    exact XrAfter.refl hW0
  · rintro j env w' hj ⟨f0, f1, f2, f6, A⟩
    simp [f1, f6, hS, hL]
    refine ite_r (t := true) (by simp; omega) (fun _ => ?_) (fun h => by cases h)
    simp [wp_blk]
    obtain ⟨F6, hW6, M6, hF6⟩ := A
    have hrd6 := hr.mod M6 (fun k hk hk' => hd k hk' hk)
    have hg6 := hrd6.gi j hj
    have hp6 := hrd6.some (by omega)
    have hlr := rawB_len W (l.take j)
    have hlr2 : W * (l.take j).length ≤ 31 * 4096 := Nat.mul_le_mul hW31 (by simp; omega)
    have hand : bitw .and .u64 (IntKind.u64.wrap (gi l j)) (IntKind.u64.wrap (shl .u64 1 (W : Int) - 1)) = (lowU (gi l j) W : Int) := by rw [(shl1_u W (by omega)).1]; exact and_w _ W (by omega)
    rw [rawB_snoc W l j hj]
    simp [f1, f2, f6, hS, hL, hj, hg6, hp6, hwW]
    refine call_h (xput_yes hW6 (lowU (gi l j) W) W (by omega) (lowU_lt _ _) (by simp; omega)) (by simp [f0, f2, hwW, hand]) ?_
    rintro r w7 ⟨rfl, A7'⟩
    have A7 := XrAfter.step M6 hF6 A7'
    have hw1 : IntKind.i64.wrap ((j : Int) + 1) = ((j + 1 : Nat) : Int) := by rw [wI (by omega) (by omega)]; omega
    simp [-Int.natCast_add, hw1, f0, f1, f2, f6]
    exact ⟨by omega, by simpa using A7⟩
  · rintro env w' ⟨f0, f1, f2, f6, A⟩
    simp [f1, f6, hS, hL]
    refine ite_r (t := false) (by simp) (fun h => by cases h) (fun _ => ?_)
    rw [List.take_length] at A
    simp
    exact A

set_option maxHeartbeats 4000000 in
theorem xpput_yes {F G : Nat → Prop} {w : World} {b : Nat} {bs : List Bool} {kv v : Value} {ks l : List Int} (o n wm : Int) (hW0 : Xr w F b bs) (h : Rd G w kv ks.length (intsV ks)) (hl : ks.length ≤ 1000000) (hv : Rc G w v l.length (intsV l)) (hvl : l.length ≤ 1000000)
    (hd : ∀ k, F k → ¬ G k) (hG : ∀ k, G k → k < w.heap.size) (hbs : bs.length ≤ 1000000) (hok : mayB o ks n wm = true ∧ rightB n wm l = true) :
    Calls Try.prog 22 [.pointer (some ⟨b, 0, none⟩), planV o kv, .int .i64 n, .int .i64 wm, v].toArray w (Ret fun r w' => r = .int .i64 0 ∧ XrAfter w F b (bs ++ putB o ks n wm l) w') := by
  refine F_sound c22 (by simp [fc22]) ?_
  obtain ⟨hS, hL⟩ := h.sl
  obtain ⟨vS, vL, vC⟩ := hv.sl
  have h1c : kv.cells = #[kv] := by obtain ⟨cap, hv⟩ := h.is; rw [hv]; rfl
  simp [fc22, s22]
  refine box_h (planV o kv) (Hp.nil w) (by simp) ?_
  intro t w1 H M1
  refine ⟨.inl rfl, ?_⟩
  have hpc : (planV o kv).cells = #[.int .i64 o, kv] := by simp [planV, Value.cells, h1c, putAt]
  have hcl := cells_blk (H.blk 0 rfl) 2 (by rw [hpc]; rfl)
  have hb0 := H.blk 0 rfl 0
  have hb1 := H.blk 0 rfl 1
  rw [hpc] at hb0 hb1 hcl
  simp at hb0 hb1
  have hj : ∀ (j : Nat), j < 2 → (w1.cell? ⟨t, j, none⟩).isSome = true := by
    intro j hj
    obtain rfl | rfl : j = 0 ∨ j = 1 := by omega
    · rw [hb0]; rfl
    · rw [hb1]; rfl
  simp [hcl, hb0, hb1]
  refine ⟨hj, ?_⟩
  refine callm (cost2_p o n wm (h.at H.mod) hl (hv.at H.mod) hvl) (by simp (disch := omega) [wI, wU, tmod_nn, tdiv_nn, env0_0, env0_1, env0_2, env0_3, env0_4, env0_5, -env0_apply, planV]) ?_
  intro w' M'
  replace H := H.same M'
  have hz := @costP_zero o ks n wm l hvl
  have hnz : ¬ costP o ks n wm l = 0 := fun e => hz.1 e hok
  simp
  refine ite_r (t := false) (by simp [hnz]) (fun h => by cases h) (fun _ => ?_)
  obtain ⟨hmay, hright⟩ := hok
  have hB : szB o n wm = true := by simp [mayB] at hmay; exact hmay.1.1
  have hkl : ks.length = (szS o n wm).length := by simp [mayB] at hmay; exact hmay.1.2
  have hka : ks.all okK = true := by simp only [mayB, Bool.and_eq_true] at hmay; exact hmay.2
  have hln : (l.length : Int) = n - wm := by simp [rightB] at hright; exact hright.1.2
  have hla : allW l = true := by simp only [rightB, Bool.and_eq_true] at hright; exact hright.2
  obtain ⟨_, ⟨o0, o8⟩, _, _⟩ := szB_iff.1 hB
  obtain ⟨hge, hat, hpos⟩ := sz_fact hB
  have hr' := rowB_iff.1 (szB_iff.1 hB).1
  have hb0 := H.blk 0 rfl 0
  have hb1 := H.blk 0 rfl 1
  rw [hpc] at hb0 hb1
  simp at hb0 hb1
  have hwo : IntKind.u64.wrap o = ((o.toNat : Nat) : Int) := by rw [wU (by omega) (by omega)]; omega
  simp [hb0]
  -- the order
  have hW := hW0.mod H.mod (fun _ _ h => h)
  refine call_h (xput_yes hW o.toNat 4 (by omega) (by omega) (by omega)) (by simp [hb0, hwo]) ?_
  rintro r w2 ⟨rfl, A⟩
  obtain ⟨F2, hW2, MW2, hF2⟩ := A
  have hnew := H.blkNew 0 rfl
  have hw0 := H.mod.size
  have hF2lt := hW2.lt
  have hn2 : ∀ k, k = t → ¬ F2 k := fun k e hk => by
    subst e
    rcases hF2 k hk with h | h
    · have := hW0.lt k h; omega
    · omega
  have hnF : ¬ F t := fun hk => by have := hW0.lt t hk; omega
  have hd2 : ∀ k, F2 k → ¬ G k := fun k hk hk' => by
    rcases hF2 k hk with h | h
    · exact hd k h hk'
    · have := hG k hk'; omega
  replace hb0 := MW2.cell hb0 hnF
  replace hb1 := MW2.cell hb1 hnF
  have h3 := (h.at H.mod).mod MW2 (fun k hk hk' => hd k hk' hk)
  have hv3 := (hv.at H.mod).mod MW2 (fun k hk hk' => hd k hk' hk)
  simp [hb0]
  refine call_h (sizes2_c o n wm) (by simp [hb0]) ?_
  intro sv w3 HR
  have srd := HR.rd 0 rfl
  obtain ⟨sS, sL⟩ := srd.sl
  replace hb1 := HR.mod.cell hb1 (fun h => h)
  replace h3 := h3.at HR.mod
  replace hv3 := hv3.at HR.mod
  have hW3 := hW2.mod HR.mod (fun _ _ h => h)
  have hw3 := HR.mod.size
  have hle := szS_le o n wm
  have hpl : ∀ i, i ≤ ks.length → (putTo o ks (szS o n wm) l i).length ≤ 4 + i * (10 + 65 * l.length) := putTo_le hka o (szS o n wm) l
  have hfin : putB o ks n wm l = putTo o ks (szS o n wm) l (szS o n wm).length := rfl
  rw [hfin]
  generalize szS o n wm = s at *
  simp
  have hw2 := MW2.size
  refine for_r s.length (fun i env' w' => env' 0 = .pointer (some ⟨b, 0, none⟩) ∧ env' 6 = .pointer (some ⟨t, 0, none⟩) ∧ env' 4 = v ∧ env' 11 = sv ∧ env' 12 = .int .i64 (atI s i) ∧ env' 13 = .int .i64 i ∧ XrAfter w3 F2 b (bs ++ putTo o ks s l i) w') ?_ ?_ ?_
  · simp [atI, putTo]
    exact XrAfter.refl hW3
  · rintro i env w' hi ⟨e0, e6, e4, e11, e12, e13, A⟩
    simp [e11, e13, sS, sL]
    refine ite_r (t := true) (by simp; omega) (fun _ => ?_) (fun h => by cases h)
    simp [wp_blk]
    obtain ⟨F', hW', M, hF'⟩ := A
    have srd' := srd.mod M (fun k hk hk' => by have := hW2.lt k hk'; omega)
    have h' := h3.mod M (fun k hk hk' => hd2 k hk' hk)
    have hb1' := M.cell hb1 (hn2 t rfl)
    have hd' : ∀ k, F' k → ¬ G k := fun k hk hk' => by
      rcases hF' k hk with h5 | h5
      · exact hd2 k h5 hk'
      · exact absurd (hG k hk') (by omega)
    have hg := srd'.gi i hi
    have hp := srd'.some (by omega)
    have hg2 := h'.gi i (by omega)
    have hp2 := h'.some (by omega)
    have hmo := atI_mono s (i + 1) s.length hi
    obtain ⟨hg0, hg4⟩ := hge i hi
    have ha1 : (atI s (i + 1) : Int) = atI s i + gi s i := by simp only [atI]; omega
    have r1 := hv3.cuti (atI s i) (atI s (i + 1)) (by omega) (by omega)
    have hpi : (l.take (atI s (i + 1))).drop (atI s i) = partI s l i := by
      rw [List.drop_take, partI]
      simp only [atI]
      rw [Nat.add_sub_cancel_left]
    rw [hpi] at r1
    have hwa : IntKind.i64.wrap ((atI s i : Int) + gi s i) = (atI s (i + 1) : Int) := by rw [wI (by omega) (by omega)]; omega
    have hk1 : okK (gi ks i) = true := by rw [List.all_eq_true] at hka; exact hka _ (gi_mem ks i (by omega))
    have hk2 : 0 ≤ gi ks i ∧ gi ks i ≤ 31 := by simp [okK, paramB] at hk1; omega
    have hwk : IntKind.u64.wrap (gi ks i) = (((gi ks i).toNat : Nat) : Int) := by rw [wU (by omega) (by omega)]; omega
    have hpb := hpl i (by omega)
    have hmul : i * (10 + 65 * l.length) ≤ 256 * (10 + 65 * 4096) := Nat.mul_le_mul (by omega) (by omega)
    have hik : i < ks.length := by omega
    have hbl : (bs ++ putTo o ks s l i).length ≤ 100000000 := by simp only [List.length_append]; omega
    have hpl2 : (partI s l i).length ≤ 4096 := by unfold partI; simp; omega
    have hpa := allW_part hla s i
    have hput : putTo o ks s l (i + 1) = putTo o ks s l i ++ partB (gi ks i) (partI s l i) := rfl
    have hGW : ∀ {w' : World} {b : Nat} {cs : List Bool}, XrAfter w3 F2 b cs w' → ∀ k, G k → k < w'.heap.size := fun A k hk => by
      obtain ⟨_, _, m, _⟩ := A
      have := m.size; have := hG k hk; have := H.mod.size; omega
    simp [e0, e4, e6, e11, e12, e13, sS, sL, hi, hg, hp, hb1', hS, hL, hg2, hp2, vS, vL, hik, hwa]
    refine ⟨⟨by omega, by omega⟩, ?_⟩
    refine call_h (xput_yes hW' (gi ks i).toNat 5 (by omega) (by omega) (by omega)) (by simp [e0, hwk]) ?_
    rintro r w4 ⟨rfl, A'⟩
    have A := XrAfter.step M hF' A'
    rw [hput]
    generalize putTo o ks s l i = pt at *
    have hGW4 := hGW A
    obtain ⟨F4, hW4, M4, hF4⟩ := A
    have srd4 := srd.mod M4 (fun k hk hk' => by have := hW2.lt k hk'; omega)
    have h4 := h3.mod M4 (fun k hk hk' => hd2 k hk' hk)
    have hb14 := M4.cell hb1 (hn2 t rfl)
    have hd4 : ∀ k, F4 k → ¬ G k := fun k hk hk' => by
      rcases hF4 k hk with h5 | h5
      · exact hd2 k h5 hk'
      · exact absurd (hG k hk') (by omega)
    have hg := srd4.gi i hi
    have hp := srd4.some (by omega)
    have hg2 := h4.gi i (by omega)
    have hp2 := h4.some (by omega)
    have hw1 : IntKind.i64.wrap ((i : Int) + 1) = ((i + 1 : Nat) : Int) := by rw [wI (by omega) (by omega)]; omega
    simp [e0, e6, e13, hb14, hS, hL, hg2, hp2, hik]

    by_cases hk : gi ks i = 31
    · refine ite_r (t := true) (by simp [hk]) (fun _ => ?_) (fun h => by cases h)
      refine callp (width2_c (r1.rd.mod M4 (fun k hk hk' => hd2 k hk' hk)) (by omega)) (by simp) ?_
      have hW31 := widL_31 hpa
      have hpart : partB (gi ks i) (partI s l i) = toB (gi ks i).toNat 5 ++ toB (widL (partI s l i)) 5 ++ rawB (widL (partI s l i)) (partI s l i) := by rw [partB, if_pos hk]; simp
      generalize widL (partI s l i) = W at *
      have hwW : IntKind.u64.wrap (W : Int) = W := wU (by omega) (by omega)
      simp
      refine call_h (xput_yes hW4 W 5 (by omega) (by omega) (by simp [toB_length]; simp at hbl; omega)) (by simp [e0, hwW]) ?_
      rintro r w5 ⟨rfl, A5'⟩
      have A5 := XrAfter.step M4 hF4 A5'
      have hGW5 := hGW A5
      obtain ⟨F5, hW5, M5, hF5⟩ := A5
      have hd5 : ∀ k, F5 k → ¬ G k := fun k hk hk' => by
        rcases hF5 k hk with h5 | h5
        · exact hd2 k h5 hk'
        · exact absurd (hG k hk') (by omega)
      rw [hpart]
      refine call_h (psigned_c hW5 (r1.rd.mod M5 (fun k hk hk' => hd2 k hk' hk)) hd5 hGW5 hpl2 (by simp [toB_length]; simp at hbl; omega) W hW31) (by simp [e0]) ?_
      rintro r w6 ⟨rfl, A6'⟩
      have A := XrAfter.step M5 hF5 A6'
      have A0 := A
      obtain ⟨F6, hW6, M6, hF6⟩ := A
      have srd6 := srd.mod M6 (fun k hk hk' => by have := hW2.lt k hk'; omega)
      have h6 := h3.mod M6 (fun k hk hk' => hd2 k hk' hk)
      have hb16 := M6.cell hb1 (hn2 t rfl)
      have hd6 : ∀ k, F6 k → ¬ G k := fun k hk hk' => by
        rcases hF6 k hk with h5 | h5
        · exact hd2 k h5 hk'
        · exact absurd (hG k hk') (by omega)
      have hg := srd6.gi i hi
      have hp := srd6.some (by omega)
      have hg2 := h6.gi i (by omega)
      have hp2 := h6.some (by omega)
      simp [-Int.natCast_add, e0, e4, e6, e11, e12, e13, sS, sL, hi, hg, hp, hwa, hw1]
      exact ⟨by omega, by simpa using A0⟩
    · refine ite_r (t := false) (by simp [hk]) (fun h => by cases h) (fun _ => ?_)
      have hkp : paramB (gi ks i) = true := by simpa [okK, hk] using hk1
      have hkp' := paramB_iff.1 hkp
      simp [e0, e6, e13, hb14, hS, hL, hg2, hp2, hik]
      obtain ⟨K, hK⟩ : ∃ K : Nat, gi ks i = K := ⟨(gi ks i).toNat, by omega⟩
      refine call_h (xrput_yes hW4 (r1.rd.mod M4 (fun k hk hk' => hd2 k hk' hk)) hd4 (by omega) (by simp [toB_length]; simp at hbl; omega) K (by omega) hpa) (by simp [e0, hK]) ?_
      rintro r w5 ⟨rfl, A5'⟩
      have A := XrAfter.step M4 hF4 A5'
      have e : bs ++ (pt ++ partB (gi ks i) (partI s l i)) = bs ++ pt ++ toB (gi ks i).toNat 5 ++ riceBs K (partI s l i) := by rw [partB, if_neg hk, hK]; simp
      rw [← e] at A
      generalize partB (gi ks i) (partI s l i) = pb at *
      have A0 := A
      obtain ⟨F6, hW6, M6, hF6⟩ := A
      have srd6 := srd.mod M6 (fun k hk hk' => by have := hW2.lt k hk'; omega)
      have h6 := h3.mod M6 (fun k hk hk' => hd2 k hk' hk)
      have hb16 := M6.cell hb1 (hn2 t rfl)
      have hd6 : ∀ k, F6 k → ¬ G k := fun k hk hk' => by
        rcases hF6 k hk with h5 | h5
        · exact hd2 k h5 hk'
        · exact absurd (hG k hk') (by omega)
      have hg := srd6.gi i hi
      have hp := srd6.some (by omega)
      have hg2 := h6.gi i (by omega)
      have hp2 := h6.some (by omega)
      simp [-Int.natCast_add, e0, e4, e6, e11, e12, e13, sS, sL, hi, hg, hp, hwa, hw1]
      exact ⟨by omega, by simpa using A0⟩
  · rintro env w' ⟨e0, e6, e4, e11, e12, e13, A⟩
    simp [e11, e13, sS, sL]
    refine ite_r (t := false) (by simp) (fun h => by cases h) (fun _ => ?_)
    simp
    have MA : Mod F w w3 := ((H.mod.mono (fun _ _ h => h.elim)).tr MW2).tr (HR.mod.mono (fun _ _ h => h.elim))
    exact XrAfter.step MA (fun k hk => (hF2 k hk).imp id (fun h => by omega)) A

end Go.Proofs.Ytajkofndbeohpaa.VG
