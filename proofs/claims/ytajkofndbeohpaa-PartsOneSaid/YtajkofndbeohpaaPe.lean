/-
  Parts: a row as bits, by the program.
-/
import Derived.Test.YtajkofndbeohpaaPd
namespace Go.Proofs.Ytajkofndbeohpaa.VG
open Go
set_option linter.unusedSimpArgs false
set_option linter.unusedVariables false

def lowU (x : Int) (w : Nat) : Nat := (x % ((2 ^ w : Nat) : Int)).toNat
def rawB (w : Nat) (l : List Int) : List Bool := l.flatMap fun x => toB (lowU x w) w
def partB (k : Int) (l : List Int) : List Bool := toB k.toNat 5 ++ (if k = 31 then toB (widL l) 5 ++ rawB (widL l) l else riceBs k.toNat l)
def putTo (o : Int) (ks s l : List Int) : Nat → List Bool
  | 0 => toB o.toNat 4
  | i + 1 => putTo o ks s l i ++ partB (gi ks i) (partI s l i)
def putB (o : Int) (ks : List Int) (n wm : Int) (l : List Int) : List Bool := putTo o ks (szS o n wm) l (szS o n wm).length

theorem lowU_lt (x : Int) (w : Nat) : lowU x w < 2 ^ w := by
  have h0 := Nat.two_pow_pos w
  have h1 := Int.emod_nonneg x (show ((2 ^ w : Nat) : Int) ≠ 0 by omega)
  have h2 := Int.emod_lt_of_pos x (show 0 < ((2 ^ w : Nat) : Int) by omega)
  unfold lowU
  generalize x % ((2 ^ w : Nat) : Int) = t at *
  generalize 2 ^ w = P at *
  omega
theorem and_w (x : Int) (j : Nat) (hj : j < 64) : bitw .and .u64 (IntKind.u64.wrap x) ((2 ^ j - 1 : Nat) : Int) = (lowU x j : Int) := by
  obtain ⟨q, h1, h2, h3⟩ := wrap_u64_is x
  obtain ⟨N, hN⟩ : ∃ N : Nat, IntKind.u64.wrap x = N := ⟨(IntKind.u64.wrap x).toNat, by omega⟩
  rw [hN] at h1 h2 h3 ⊢
  rw [and_u N j (by omega) hj]
  have hP := Nat.two_pow_pos j
  have e : x % ((2 ^ j : Nat) : Int) = (N : Int) % ((2 ^ j : Nat) : Int) := by
    rw [h1]
    have hd : (18446744073709551616 : Int) = ((2 ^ j : Nat) : Int) * ((2 ^ (64 - j) : Nat) : Int) := by
      rw [← Int.natCast_mul, ← Nat.pow_add, show j + (64 - j) = 64 by omega]; rfl
    rw [hd, Int.mul_assoc, Int.add_mul_emod_self_left]
  unfold lowU
  rw [e, ← Int.natCast_emod, Int.toNat_natCast]
theorem shl1_u (j : Nat) (hj : j < 64) : IntKind.u64.wrap (shl .u64 1 (j : Int) - 1) = ((2 ^ j - 1 : Nat) : Int) ∧ shl .u64 1 (j : Int) = ((2 ^ j : Nat) : Int) := by
  have h2 : 2 ^ j ≤ 2 ^ 63 := Nat.pow_le_pow_right (by omega) (by omega)
  have h3 := Nat.two_pow_pos j
  have hs : shl .u64 1 (j : Int) = ((2 ^ j : Nat) : Int) := by
    rw [shl_int _ _ _ (by simp only [IntKind.bits]; omega), Int.one_mul]
    exact wrap_nat_u64 (by omega)
  refine ⟨?_, hs⟩
  rw [hs, show ((2 ^ j : Nat) : Int) - 1 = ((2 ^ j - 1 : Nat) : Int) by omega]
  exact wrap_nat_u64 (by omega)

theorem fit31 {x : Int} (h : wideB x = true) : fitB x 31 = true := by
  have := wideB_iff.1 h
  simp [fitB, lowI, highI]
  omega
theorem widX_31 {x : Int} (h : wideB x = true) {w : Nat} (hw : w ≤ 31) : widX w x ≤ 31 := by
  have key : ∀ f w, w + f = 32 → w ≤ 31 → widF x f w ≤ 31 := by
    intro f
    induction f with
    | zero => intro w h1 h2; omega
    | succ f ih =>
      intro w h1 h2
      simp only [widF]
      split
      · rename_i hc
        by_cases h31 : w = 31
        · subst h31; rw [fit31 h] at hc; exact absurd hc.2 (by simp)
        · exact ih (w + 1) (by omega) (by omega)
      · exact h2
  exact key (32 - w) w (by omega) hw
theorem foldX_31 : ∀ (l : List Int) (w : Nat), allW l = true → w ≤ 31 → l.foldl widX w ≤ 31
  | [], w, _, h => h
  | x :: r, w, ha, h => by
    simp only [allW, List.all_cons, Bool.and_eq_true] at ha
    exact foldX_31 r (widX w x) ha.2 (widX_31 ha.1 h)
theorem widL_31 {l : List Int} (h : allW l = true) : widL l ≤ 31 := foldX_31 l 0 h (by omega)
theorem allW_sub {l m : List Int} (h : allW l = true) (hm : ∀ x ∈ m, x ∈ l) : allW m = true := by
  simp only [allW, List.all_eq_true] at *
  exact fun x hx => h x (hm x hx)
theorem allW_part {l : List Int} (h : allW l = true) (s : List Int) (i : Nat) : allW (partI s l i) = true :=
  allW_sub h fun x hx => List.mem_of_mem_drop (List.mem_of_mem_take hx)
theorem rawB_len (w : Nat) (l : List Int) : (rawB w l).length = w * l.length := by
  induction l with
  | nil => simp [rawB]
  | cons x r ih => simp only [rawB, List.flatMap_cons, List.length_append, toB_length, List.length_cons] at ih ⊢; rw [ih, Nat.mul_succ]; omega
theorem rawB_snoc (w : Nat) (l : List Int) (i : Nat) (h : i < l.length) : rawB w (l.take (i + 1)) = rawB w (l.take i) ++ toB (lowU (gi l i) w) w := by
  rw [gi_take_snoc l i h]; simp [rawB]
theorem partB_le {k : Int} (hk : okK k = true) (l : List Int) : (partB k l).length ≤ 10 + 65 * l.length := by
  have h1 := widL_le l
  have h2 := rawB_len (widL l) l
  have h3 : widL l * l.length ≤ 32 * l.length := Nat.mul_le_mul_right _ h1
  unfold partB
  split
  · simp [toB_length, h2]; omega
  · rename_i hk31
    have hp : paramB k = true := by simpa [okK, hk31] using hk
    have hp' := paramB_iff.1 hp
    have h4 := riceBs_le (show k.toNat ≤ 25 by omega) l
    simp [toB_length]; omega
theorem putTo_le {ks : List Int} (hk : ks.all okK = true) (o : Int) (s l : List Int) : ∀ i, i ≤ ks.length → (putTo o ks s l i).length ≤ 4 + i * (10 + 65 * l.length)
  | 0, _ => by simp [putTo, toB_length]
  | i + 1, hi => by
    have h1 := putTo_le hk o s l i (by omega)
    have h2 := partB_le (k := gi ks i) (by rw [List.all_eq_true] at hk; exact hk _ (gi_mem ks i (by omega))) (partI s l i)
    have h3 : (partI s l i).length ≤ l.length := by unfold partI; simp; omega
    simp only [putTo, List.length_append]
    rw [Nat.succ_mul]
    omega

theorem costP_zero {o : Int} {ks : List Int} {n wm : Int} {l : List Int} (hl : l.length ≤ 1000000) : costP o ks n wm l = 0 ↔ ¬ (mayB o ks n wm = true ∧ rightB n wm l = true) := by
  unfold costP
  split
  · rename_i h
    have := costTo_bd ks (szS o n wm) l hl (szS o n wm).length
    simp only [h, and_self, not_true_eq_false, iff_false]
    omega
  · rename_i h; simp [h]

/-- A writer goes on. -/
theorem WrAfter.next {w w1 w2 : World} {F F1 : Nat → Prop} {b : Nat} {bs : List Bool} (hm : Mod F w w1) (hF : ∀ k, F1 k → F k ∨ w.heap.size ≤ k) (h : WrAfter w1 F1 b bs w2) : WrAfter w F b bs w2 := WrAfter.step hm hF h

set_option maxHeartbeats 1000000 in
theorem pput_no {G : Nat → Prop} {w : World} {b : Nat} {kv v : Value} {ks l : List Int} (o n wm : Int) (h : Rd G w kv ks.length (intsV ks)) (hl : ks.length ≤ 1000000) (hv : Rc G w v l.length (intsV l)) (hvl : l.length ≤ 1000000) (hok : ¬ (mayB o ks n wm = true ∧ rightB n wm l = true)) :
    Calls Try.prog 21 [.pointer (some ⟨b, 0, none⟩), planV o kv, .int .i64 n, .int .i64 wm, v].toArray w (Ret fun r w' => r = .int .i64 1 ∧ Mod none' w w') := by
  refine F_sound c21 (by simp [fc21]) ?_
  obtain ⟨hS, hL⟩ := h.sl
  have h1c : kv.cells = #[kv] := by obtain ⟨cap, hv⟩ := h.is; rw [hv]; rfl
  simp [fc21, s21]
  refine box_h (planV o kv) (Hp.nil w) (by simp) ?_
  intro t w1 H M1
  refine ⟨.inl rfl, ?_⟩
  have hpc : (planV o kv).cells = #[.int .i64 o, kv] := by simp [planV, Value.cells, h1c, putAt]
  have hcl := cells_blk (H.blk 0 rfl) 2 (by rw [hpc]; rfl)
  have hb0 := H.blk 0 rfl 0
  have hb1 := H.blk 0 rfl 1
  rw [hpc] at hb0 hb1 hcl
  simp at hb0 hb1
  have hj : ∀ (j : Nat), j < 2 → (w1.cell? ⟨t, j, none⟩).isSome = true := by
    intro j hj
    obtain rfl | rfl : j = 0 ∨ j = 1 := by omega
    · rw [hb0]; rfl
    · rw [hb1]; rfl
  simp [hcl, hb0, hb1]
  refine ⟨hj, ?_⟩
  refine callm (cost_p o n wm (h.at H.mod) hl (hv.at H.mod) hvl) (by simp (disch := omega) [wI, wU, tmod_nn, tdiv_nn, env0_0, env0_1, env0_2, env0_3, env0_4, env0_5, -env0_apply, planV]) ?_
  intro w' M'
  replace H := H.same M'
  have hz := @costP_zero o ks n wm l hvl
  simp [hz.2 hok]
  refine ite_r (t := true) (by simp) (fun _ => ?_) (fun h => by cases h)
  simp
  exact H.mod

set_option maxHeartbeats 1000000 in
theorem xpput_no {G : Nat → Prop} {w : World} {b : Nat} {kv v : Value} {ks l : List Int} (o n wm : Int) (h : Rd G w kv ks.length (intsV ks)) (hl : ks.length ≤ 1000000) (hv : Rc G w v l.length (intsV l)) (hvl : l.length ≤ 1000000) (hok : ¬ (mayB o ks n wm = true ∧ rightB n wm l = true)) :
    Calls Try.prog 22 [.pointer (some ⟨b, 0, none⟩), planV o kv, .int .i64 n, .int .i64 wm, v].toArray w (Ret fun r w' => r = .int .i64 1 ∧ Mod none' w w') := by
  refine F_sound c22 (by simp [fc22]) ?_
  obtain ⟨hS, hL⟩ := h.sl
  have h1c : kv.cells = #[kv] := by obtain ⟨cap, hv⟩ := h.is; rw [hv]; rfl
  simp [fc22, s22]
  refine box_h (planV o kv) (Hp.nil w) (by simp) ?_
  intro t w1 H M1
  refine ⟨.inl rfl, ?_⟩
  have hpc : (planV o kv).cells = #[.int .i64 o, kv] := by simp [planV, Value.cells, h1c, putAt]
  have hcl := cells_blk (H.blk 0 rfl) 2 (by rw [hpc]; rfl)
  have hb0 := H.blk 0 rfl 0
  have hb1 := H.blk 0 rfl 1
  rw [hpc] at hb0 hb1 hcl
  simp at hb0 hb1
  have hj : ∀ (j : Nat), j < 2 → (w1.cell? ⟨t, j, none⟩).isSome = true := by
    intro j hj
    obtain rfl | rfl : j = 0 ∨ j = 1 := by omega
    · rw [hb0]; rfl
    · rw [hb1]; rfl
  simp [hcl, hb0, hb1]
  refine ⟨hj, ?_⟩
  refine callm (cost2_p o n wm (h.at H.mod) hl (hv.at H.mod) hvl) (by simp (disch := omega) [wI, wU, tmod_nn, tdiv_nn, env0_0, env0_1, env0_2, env0_3, env0_4, env0_5, -env0_apply, planV]) ?_
  intro w' M'
  replace H := H.same M'
  have hz := @costP_zero o ks n wm l hvl
  simp [hz.2 hok]
  refine ite_r (t := true) (by simp) (fun _ => ?_) (fun h => by cases h)
  simp
  exact H.mod

set_option maxHeartbeats 4000000 in
theorem pput_yes {F G : Nat → Prop} {w : World} {b : Nat} {bs : List Bool} {kv v : Value} {ks l : List Int} (o n wm : Int) (hW0 : Wr w F b bs) (h : Rd G w kv ks.length (intsV ks)) (hl : ks.length ≤ 1000000) (hv : Rc G w v l.length (intsV l)) (hvl : l.length ≤ 1000000)
    (hd : ∀ k, F k → ¬ G k) (hG : ∀ k, G k → k < w.heap.size) (hbs : bs.length ≤ 1000000) (hok : mayB o ks n wm = true ∧ rightB n wm l = true) :
    Calls Try.prog 21 [.pointer (some ⟨b, 0, none⟩), planV o kv, .int .i64 n, .int .i64 wm, v].toArray w (Ret fun r w' => r = .int .i64 0 ∧ WrAfter w F b (bs ++ putB o ks n wm l) w') := by
  refine F_sound c21 (by simp [fc21]) ?_
  obtain ⟨hS, hL⟩ := h.sl
  have h1c : kv.cells = #[kv] := by obtain ⟨cap, hv⟩ := h.is; rw [hv]; rfl
  simp [fc21, s21]
  refine box_h (planV o kv) (Hp.nil w) (by simp) ?_
  intro t w1 H M1
  refine ⟨.inl rfl, ?_⟩
  have hpc : (planV o kv).cells = #[.int .i64 o, kv] := by simp [planV, Value.cells, h1c, putAt]
  have hcl := cells_blk (H.blk 0 rfl) 2 (by rw [hpc]; rfl)
  have hb0 := H.blk 0 rfl 0
  have hb1 := H.blk 0 rfl 1
  rw [hpc] at hb0 hb1 hcl
  simp at hb0 hb1
  have hj : ∀ (j : Nat), j < 2 → (w1.cell? ⟨t, j, none⟩).isSome = true := by
    intro j hj
    obtain rfl | rfl : j = 0 ∨ j = 1 := by omega
    · rw [hb0]; rfl
    · rw [hb1]; rfl
  simp [hcl, hb0, hb1]
  refine ⟨hj, ?_⟩
  refine callm (cost_p o n wm (h.at H.mod) hl (hv.at H.mod) hvl) (by simp (disch := omega) [wI, wU, tmod_nn, tdiv_nn, env0_0, env0_1, env0_2, env0_3, env0_4, env0_5, -env0_apply, planV]) ?_
  intro w' M'
  replace H := H.same M'
  have hz := @costP_zero o ks n wm l hvl
  have hnz : ¬ costP o ks n wm l = 0 := fun e => hz.1 e hok
  simp
  refine ite_r (t := false) (by simp [hnz]) (fun h => by cases h) (fun _ => ?_)
  obtain ⟨hmay, hright⟩ := hok
  have hB : szB o n wm = true := by simp [mayB] at hmay; exact hmay.1.1
  have hkl : ks.length = (szS o n wm).length := by simp [mayB] at hmay; exact hmay.1.2
  have hka : ks.all okK = true := by simp only [mayB, Bool.and_eq_true] at hmay; exact hmay.2
  have hln : (l.length : Int) = n - wm := by simp [rightB] at hright; exact hright.1.2
  have hla : allW l = true := by simp only [rightB, Bool.and_eq_true] at hright; exact hright.2
  obtain ⟨_, ⟨o0, o8⟩, _, _⟩ := szB_iff.1 hB
  obtain ⟨hge, hat, hpos⟩ := sz_fact hB
  have hr' := rowB_iff.1 (szB_iff.1 hB).1
  have hb0 := H.blk 0 rfl 0
  have hb1 := H.blk 0 rfl 1
  rw [hpc] at hb0 hb1
  simp at hb0 hb1
  have hwo : IntKind.u64.wrap o = ((o.toNat : Nat) : Int) := by rw [wU (by omega) (by omega)]; omega
  simp [hb0]
  -- the order
  have hW := hW0.mod H.mod (fun _ _ h => h)
  refine call_h (put_yes hW o.toNat 4 (by omega) (by omega) (by omega)) (by simp [hb0, hwo]) ?_
  rintro r w2 ⟨rfl, A⟩
  obtain ⟨F2, hW2, MW2, hF2⟩ := A
  have hnew := H.blkNew 0 rfl
  have hw0 := H.mod.size
  have hF2lt := hW2.lt
  have hn2 : ∀ k, k = t → ¬ F2 k := fun k e hk => by
    subst e
    rcases hF2 k hk with h | h
    · have := hW0.lt k h; omega
    · omega
  have hnF : ¬ F t := fun hk => by have := hW0.lt t hk; omega
  have hd2 : ∀ k, F2 k → ¬ G k := fun k hk hk' => by
    rcases hF2 k hk with h | h
    · exact hd k h hk'
    · have := hG k hk'; omega
  replace hb0 := MW2.cell hb0 hnF
  replace hb1 := MW2.cell hb1 hnF
  have h3 := (h.at H.mod).mod MW2 (fun k hk hk' => hd k hk' hk)
  have hv3 := (hv.at H.mod).mod MW2 (fun k hk hk' => hd k hk' hk)
  simp [hb0]
  refine call_h (sizes_c o n wm) (by simp [hb0]) ?_
  intro sv w3 HR
  have srd := HR.rd 0 rfl
  obtain ⟨sS, sL⟩ := srd.sl
  replace hb1 := HR.mod.cell hb1 (fun h => h)
  replace h3 := h3.at HR.mod
  replace hv3 := hv3.at HR.mod
  have hW3 := hW2.mod HR.mod (fun _ _ h => h)
  have hw3 := HR.mod.size
  have hle := szS_le o n wm
  have hpl : ∀ i, i ≤ ks.length → (putTo o ks (szS o n wm) l i).length ≤ 4 + i * (10 + 65 * l.length) := putTo_le hka o (szS o n wm) l
  have hfin : putB o ks n wm l = putTo o ks (szS o n wm) l (szS o n wm).length := rfl
  rw [hfin]
  generalize szS o n wm = s at *
  simp [sS, sL]
  have hw2 := MW2.size
  refine for_r s.length (fun i env' w' => env' 0 = .pointer (some ⟨b, 0, none⟩) ∧ env' 6 = .pointer (some ⟨t, 0, none⟩) ∧ env' 32 = sv ∧ env' 33 = .int .i64 s.length ∧ env' 34 = .int .i64 i ∧ Rc G w3 (env' 4) (l.drop (atI s i)).length (intsV (l.drop (atI s i))) ∧ WrAfter w3 F2 b (bs ++ putTo o ks s l i) w') ?_ ?_ ?_
  · simp [sL, atI, putTo]
    exact ⟨hv3, WrAfter.refl hW3⟩
  · rintro i env w' hi ⟨e0, e6, e32, e33, e34, hr, A⟩
    simp [e33, e34]
    refine ite_r (t := true) (by simp; omega) (fun _ => ?_) (fun h => by cases h)
    simp [wp_blk]
    obtain ⟨F', hW', M, hF'⟩ := A
    have srd' := srd.mod M (fun k hk hk' => by have := hW2.lt k hk'; omega)
    have h' := h3.mod M (fun k hk hk' => hd2 k hk' hk)
    have hb1' := M.cell hb1 (hn2 t rfl)
    have hd' : ∀ k, F' k → ¬ G k := fun k hk hk' => by
      rcases hF' k hk with h5 | h5
      · exact hd2 k h5 hk'
      · exact absurd (hG k hk') (by omega)
    have hg := srd'.gi i hi
    have hp := srd'.some (by omega)
    have hg2 := h'.gi i (by omega)
    have hp2 := h'.some (by omega)
    have hmo := atI_mono s (i + 1) s.length hi
    obtain ⟨hg0, hg4⟩ := hge i hi
    obtain ⟨rS, rL, rC⟩ := hr.sl
    have hrl : gi s i ≤ (slL (env 4) : Int) := by
      rw [rL, List.length_drop]
      simp only [atI] at hmo
      omega
    have hrc : gi s i ≤ (slC (env 4) : Int) := by omega
    obtain ⟨r1, r2⟩ := pcost_k hv3 (s := s) (i := i) (by omega) hr
    rw [← rL] at r2
    generalize env 4 = rv at *
    have hk1 : okK (gi ks i) = true := by rw [List.all_eq_true] at hka; exact hka _ (gi_mem ks i (by omega))
    have hk2 : 0 ≤ gi ks i ∧ gi ks i ≤ 31 := by simp [okK, paramB] at hk1; omega
    have hwk : IntKind.u64.wrap (gi ks i) = (((gi ks i).toNat : Nat) : Int) := by rw [wU (by omega) (by omega)]; omega
    have hpb := hpl i (by omega)
    have hmul : i * (10 + 65 * l.length) ≤ 256 * (10 + 65 * 4096) := Nat.mul_le_mul (by omega) (by omega)
    have hik : i < ks.length := by omega
    have hbl : (bs ++ putTo o ks s l i).length ≤ 100000000 := by simp only [List.length_append]; omega
    have hpl2 : (partI s l i).length ≤ 4096 := by unfold partI; simp; omega
    have hpa := allW_part hla s i
    have hput : putTo o ks s l (i + 1) = putTo o ks s l i ++ partB (gi ks i) (partI s l i) := rfl
    simp [e0, e6, e32, e33, e34, sS, sL, hi, hg, hp, rS, hg0, hrl, hrc, hb1', hS, hL, hg2, hp2, hik]
    refine ⟨by omega, ?_⟩
    refine call_h (put_yes hW' (gi ks i).toNat 5 (by omega) (by omega) (by omega)) (by simp [e0, hwk]) ?_
    rintro r w4 ⟨rfl, A'⟩
    have A := WrAfter.step M hF' A'
    rw [hput]
    generalize putTo o ks s l i = pt at *
    obtain ⟨F4, hW4, M4, hF4⟩ := A
    have srd4 := srd.mod M4 (fun k hk hk' => by have := hW2.lt k hk'; omega)
    have h4 := h3.mod M4 (fun k hk hk' => hd2 k hk' hk)
    have hb14 := M4.cell hb1 (hn2 t rfl)
    have hd4 : ∀ k, F4 k → ¬ G k := fun k hk hk' => by
      rcases hF4 k hk with h5 | h5
      · exact hd2 k h5 hk'
      · exact absurd (hG k hk') (by omega)
    have hg := srd4.gi i hi
    have hp := srd4.some (by omega)
    have hg2 := h4.gi i (by omega)
    have hp2 := h4.some (by omega)
    simp [e0, e6, hb14, hS, hL, hg2, hp2, hik]
    by_cases hk : gi ks i = 31
    · refine ite_r (t := false) (by simp [hk]) (fun h => by cases h) (fun _ => ?_)
      simp
      refine callp (width_c' (r1.rd.mod M4 (fun k hk hk' => hd2 k hk' hk)) (by omega)) (by simp) ?_
      have hW31 := widL_31 hpa
      have hpart : partB (gi ks i) (partI s l i) = toB (gi ks i).toNat 5 ++ toB (widL (partI s l i)) 5 ++ rawB (widL (partI s l i)) (partI s l i) := by rw [partB, if_pos hk]; simp
      have hrb := rawB_len (widL (partI s l i))
      generalize widL (partI s l i) = W at *
      have hwW : IntKind.u64.wrap (W : Int) = W := wU (by omega) (by omega)
      simp
      refine call_h (put_yes hW4 W 5 (by omega) (by omega) (by simp [toB_length]; simp at hbl; omega)) (by simp [e0, hwW]) ?_
      rintro r w5 ⟨rfl, A5'⟩
      have A5 := WrAfter.step M4 hF4 A5'
      obtain ⟨pS, pL⟩ := r1.rd.sl
      rw [hpart]
      generalize hP : partI s l i = P at *
      simp [pS, pL, e0]
      refine for_r P.length (fun j env' w' => env' 0 = .pointer (some ⟨b, 0, none⟩) ∧ env' 6 = .pointer (some ⟨t, 0, none⟩) ∧ env' 32 = sv ∧ env' 33 = .int .i64 s.length ∧ env' 34 = .int .i64 i ∧ env' 4 = slVal 1 rv (gi s i).toNat (slL rv) ∧ env' 14 = .int .i64 W ∧ env' 73 = slVal 1 rv 0 (gi s i).toNat ∧ env' 74 = .int .i64 P.length ∧ env' 75 = .int .i64 j ∧
        WrAfter w3 F2 b (bs ++ pt ++ toB (gi ks i).toNat 5 ++ toB W 5 ++ rawB W (P.take j)) w') ?_ ?_ ?_
      · simp [e0, e6, e32, e33, e34, pL, rawB]
        simpa using A5
      · rintro j env3 w' hj ⟨f0, f6, f32, f33, f34, f4, f14, f73, f74, f75, A⟩
        simp [f74, f75]
        refine ite_r (t := true) (by simp; omega) (fun _ => ?_) (fun h => by cases h)
        simp [wp_blk]
        obtain ⟨F6, hW6, M6, hF6⟩ := A
        have hrd6 := r1.rd.mod M6 (fun k hk hk' => hd2 k hk' hk)
        have hg6 := hrd6.gi j hj
        have hp6 := hrd6.some (by omega)
        have hlr := hrb (P.take j)
        have hlr2 : W * (P.take j).length ≤ 31 * 4096 := Nat.mul_le_mul hW31 (by simp; omega)
        have hand : bitw .and .u64 (IntKind.u64.wrap (gi P j)) (IntKind.u64.wrap (shl .u64 1 (W : Int) - 1)) = (lowU (gi P j) W : Int) := by rw [(shl1_u W (by omega)).1]; exact and_w _ W (by omega)
        rw [rawB_snoc W P j hj]
        simp [f73, f75, f14, pS, pL, hj, hg6, hp6]
        refine call_h (put_yes hW6 (lowU (gi P j) W) W (by omega) (lowU_lt _ _) (by simp [toB_length]; simp at hbl; omega)) (by simp [f0, f14, hand]) ?_
        rintro r w7 ⟨rfl, A7'⟩
        have A7 := WrAfter.step M6 hF6 A7'
        have hw1 : IntKind.i64.wrap ((j : Int) + 1) = ((j + 1 : Nat) : Int) := by rw [wI (by omega) (by omega)]; omega
        simp [-Int.natCast_add, hw1, f0, f6, f32, f33, f34, f4, f14, f73, f74, f75]
        exact ⟨by omega, by simpa using A7⟩
      · rintro env3 w' ⟨f0, f6, f32, f33, f34, f4, f14, f73, f74, f75, A⟩
        simp [f74, f75]
        refine ite_r (t := false) (by simp) (fun h => by cases h) (fun _ => ?_)
        rw [List.take_length] at A
        have hw1 : IntKind.i64.wrap ((i : Int) + 1) = ((i + 1 : Nat) : Int) := by rw [wI (by omega) (by omega)]; omega
        simp [-Int.natCast_add, hw1, f0, f6, f32, f33, f34, f4]
        rw [List.length_drop] at r2
        exact ⟨by omega, r2, by simpa using A⟩
    · refine ite_r (t := true) (by simp [hk]) (fun _ => ?_) (fun h => by cases h)
      have hkp : paramB (gi ks i) = true := by simpa [okK, hk] using hk1
      have hkp' := paramB_iff.1 hkp
      simp [e0, e6, hb14, hS, hL, hg2, hp2, hik]
      obtain ⟨K, hK⟩ : ∃ K : Nat, gi ks i = K := ⟨(gi ks i).toNat, by omega⟩
      refine call_h (rput_yes hW4 (r1.rd.mod M4 (fun k hk hk' => hd2 k hk' hk)) hd4 (by omega) (by simp [toB_length]; simp at hbl; omega) K (by omega) hpa) (by simp [e0, hK]) ?_
      rintro r w5 ⟨rfl, A5'⟩
      have A5 := WrAfter.step M4 hF4 A5'
      have hw1 : IntKind.i64.wrap ((i : Int) + 1) = ((i + 1 : Nat) : Int) := by rw [wI (by omega) (by omega)]; omega
      have e : bs ++ (pt ++ partB (gi ks i) (partI s l i)) = bs ++ pt ++ toB (gi ks i).toNat 5 ++ riceBs K (partI s l i) := by rw [partB, if_neg hk, hK]; simp
      rw [← e] at A5
      generalize partB (gi ks i) (partI s l i) = pb at *
      simp [-Int.natCast_add, hw1, e0, e6, e32, e33, e34]
      rw [List.length_drop] at r2
      exact ⟨by omega, r2, by simpa using A5⟩
  · rintro env w' ⟨e0, e6, e32, e33, e34, hr, A⟩
    simp [e33, e34]
    refine ite_r (t := false) (by simp) (fun h => by cases h) (fun _ => ?_)
    simp
    have MA : Mod F w w3 := ((H.mod.mono (fun _ _ h => h.elim)).tr MW2).tr (HR.mod.mono (fun _ _ h => h.elim))
    exact WrAfter.step MA (fun k hk => (hF2 k hk).imp id (fun h => by omega)) A

end Go.Proofs.Ytajkofndbeohpaa.VG
