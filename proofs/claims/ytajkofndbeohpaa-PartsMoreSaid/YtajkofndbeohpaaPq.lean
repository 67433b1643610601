/-
  Parts: what is put is got back.
-/
import Derived.Test.YtajkofndbeohpaaPo
import Derived.Test.YtajkofndbeohpaaRh
namespace Go.Proofs.Ytajkofndbeohpaa.VG
open Go
set_option linter.unusedSimpArgs false
set_option linter.unusedVariables false

theorem fitB_iff {x : Int} {w : Nat} : fitB x w = true ↔ (1 ≤ w ∧ w ≤ 31) ∧ -((2 ^ (w - 1) : Nat) : Int) ≤ x ∧ x ≤ ((2 ^ (w - 1) : Nat) : Int) - 1 := by
  by_cases hw : 1 ≤ w ∧ w ≤ 31
  · simp [fitB, lowI, highI, hw]
  · simp [fitB]
    omega
theorem lowU_signed {x : Int} {w : Nat} (h : fitB x w = true) : sgnI (lowU x w) w = x := by
  obtain ⟨⟨hw, hw'⟩, h1, h2⟩ := fitB_iff.1 h
  have hb : 64 - w ≤ IntKind.i64.bits := by simp only [IntKind.bits]; omega
  have hP : 2 ^ (w - 1) * 2 ^ (64 - w) = 9223372036854775808 := by rw [← Nat.pow_add, show w - 1 + (64 - w) = 63 by omega]
  have hP0 := Nat.two_pow_pos (64 - w)
  have hs := (signed_back x w hw (by omega) _ rfl).1
  have e : shr .i64 (shl .i64 x ((64 - w : Nat) : Int)) ((64 - w : Nat) : Int) = x := by
    rw [shl_int _ _ _ hb, shr_int _ _ _ hb]
    generalize 2 ^ (64 - w) = P at *
    generalize 2 ^ (w - 1) = A at *
    have hPZ : (A : Int) * (P : Int) = 9223372036854775808 := by rw [← Int.natCast_mul, hP]; rfl
    have m1 := Int.mul_le_mul_of_nonneg_right h1 (show (0 : Int) ≤ P by omega)
    have m2 := Int.mul_le_mul_of_nonneg_right h2 (show (0 : Int) ≤ P by omega)
    rw [Int.neg_mul, hPZ] at m1
    rw [Int.sub_mul, hPZ] at m2
    rw [wI (by omega) (by omega)]
    exact Int.mul_ediv_cancel _ (by omega)
  rw [e] at hs
  have e2 : lowN (IntKind.u64.wrap x).toNat w = lowU x w := by
    obtain ⟨q, _, h3, h4⟩ := wrap_u64_is x
    obtain ⟨N, hN⟩ : ∃ N : Nat, IntKind.u64.wrap x = N := ⟨(IntKind.u64.wrap x).toNat, by omega⟩
    have a := and_w x w (by omega)
    rw [hN, and_u N w (by omega) (by omega)] at a
    rw [hN, Int.toNat_natCast, lowN, if_neg (by omega)]
    exact_mod_cast a
  rw [e2] at hs
  exact hs
theorem fit_mono {x : Int} {a b : Nat} (h : fitB x a = true) (ha : a ≤ b) (hb : b ≤ 31) : fitB x b = true := by
  rw [fitB_iff] at *
  have : 2 ^ (a - 1) ≤ 2 ^ (b - 1) := Nat.pow_le_pow_right (by omega) (by omega)
  omega
theorem widF_fit {x : Int} (hx : wideB x = true) : ∀ f w, w + f = 32 → w ≤ 31 → x = 0 ∨ fitB x (widF x f w) = true
  | 0, w, h, h' => by omega
  | f + 1, w, h, h' => by
    simp only [widF]
    split
    · rename_i hc
      by_cases h31 : w = 31
      · subst h31; rw [fit31 hx] at hc; exact absurd hc.2 (by simp)
      · exact widF_fit hx f (w + 1) (by omega) (by omega)
    · rename_i hc
      by_cases h0 : x = 0
      · exact .inl h0
      · refine .inr ?_
        rcases Bool.eq_false_or_eq_true (fitB x w) with h | h
        · exact h
        · exact absurd ⟨h0, h⟩ hc
theorem foldX_fit : ∀ (l : List Int) (w : Nat), allW l = true → w ≤ 31 → ∀ x ∈ l, x = 0 ∨ fitB x (l.foldl widX w) = true
  | [], w, _, _, x, hx => by cases hx
  | y :: r, w, ha, h, x, hx => by
    simp only [allW, List.all_cons, Bool.and_eq_true] at ha
    have h1 := widX_31 ha.1 h
    have h2 := foldX_31 r (widX w y) ha.2 h1
    have h3 := (foldX_le r (widX w y) (by omega)).2
    rcases List.mem_cons.1 hx with rfl | hx
    · rcases widF_fit ha.1 (32 - w) w (by omega) h with h0 | h0
      · exact .inl h0
      · exact .inr (fit_mono h0 h3 h2)
    · exact foldX_fit r (widX w y) ha.2 h1 x hx
theorem widL_fit {l : List Int} (h : allW l = true) : ∀ x ∈ l, x = 0 ∨ fitB x (widL l) = true := foldX_fit l 0 h (by omega)

theorem rSigned_back {x : Int} {w : Nat} (hw : w ≤ 31) (h : x = 0 ∨ fitB x w = true) (a c : List Bool) : rSigned (packB (a ++ toB (lowU x w) w ++ c)) a.length 0 w = (x, a.length + w, 0) := by
  have hg := rGet_pack a (toB (lowU x w) w) c (by rw [toB_length]; omega)
  rw [toB_length, ofB_toB, Nat.mod_eq_of_lt (lowU_lt x w)] at hg
  unfold rSigned
  simp only [hg]
  by_cases h0 : w = 0
  · subst h0
    rcases h with rfl | h
    · simp
    · have := (fitB_iff.1 h).1; omega
  · have hf : fitB x w = true := by
      rcases h with rfl | h
      · have := Nat.two_pow_pos (w - 1)
        exact fitB_iff.2 ⟨by omega, by omega, by omega⟩
      · exact h
    rw [if_neg (by omega), lowU_signed hf]

theorem sgTo_back {l : List Int} {w : Nat} (hw : w ≤ 31) (h : ∀ x ∈ l, x = 0 ∨ fitB x w = true) (a c : List Bool) : ∀ i, i ≤ l.length → sgTo (packB (a ++ rawB w l ++ c)) a.length 0 w i = (l.take i, a.length + w * i, 0)
  | 0, _ => by simp [sgTo]
  | i + 1, hi => by
    have ih := sgTo_back hw h a c i (by omega)
    have e : a ++ rawB w l ++ c = (a ++ rawB w (l.take i)) ++ toB (lowU (gi l i) w) w ++ (rawB w (l.drop (i + 1)) ++ c) := by
      have e1 : l = l.take i ++ [gi l i] ++ l.drop (i + 1) := by rw [← gi_take_snoc l i (by omega)]; simp
      conv => lhs; rw [e1]
      simp [rawB]
    have hl : (a ++ rawB w (l.take i)).length = a.length + w * i := by rw [List.length_append, rawB_len, List.length_take, Nat.min_eq_left (by omega)]
    have hs := rSigned_back hw (h (gi l i) (gi_mem l i (by omega))) (a ++ rawB w (l.take i)) (rawB w (l.drop (i + 1)) ++ c)
    rw [← e, hl] at hs
    simp only [sgTo, ih, hs]
    rw [gi_take_snoc l i (by omega), Nat.mul_succ, Nat.add_assoc]

def bodyB (k : Int) (l : List Int) : List Bool := if k = 31 then toB (widL l) 5 ++ rawB (widL l) l else riceBs k.toNat l
theorem partB_eq (k : Int) (l : List Int) : partB k l = toB k.toNat 5 ++ bodyB k l := rfl
theorem partQ_back {k : Int} {l : List Int} (hk : okK k = true) (ha : allW l = true) (hl : l.length ≤ 4096) (a c : List Bool) : partQ (packB (a ++ bodyB k l ++ c)) a.length k l.length = ((l, 0), a.length + (bodyB k l).length, 0) := by
  by_cases h31 : k = 31
  · subst h31
    have hw := widL_31 ha
    have e : bodyB 31 l = toB (widL l) 5 ++ rawB (widL l) l := by rw [bodyB, if_pos rfl]
    have hg := rGet_pack a (toB (widL l) 5) (rawB (widL l) l ++ c) (by rw [toB_length]; omega)
    have e1 : a ++ toB (widL l) 5 ++ (rawB (widL l) l ++ c) = a ++ (toB (widL l) 5 ++ rawB (widL l) l) ++ c := by simp
    have e2 : (a ++ toB (widL l) 5) ++ rawB (widL l) l ++ c = a ++ (toB (widL l) 5 ++ rawB (widL l) l) ++ c := by simp
    have hs := sgTo_back hw (widL_fit ha) (a ++ toB (widL l) 5) c l.length (Nat.le_refl _)
    rw [e2, List.length_append, toB_length, List.take_length] at hs
    rw [e1, toB_length, ofB_toB, Nat.mod_eq_of_lt (by omega), show ((5 : Nat) : Int) = 5 from rfl] at hg
    rw [e, partQ, if_neg (by simp), hg, Int.toNat_natCast, hs]
    simp [toB_length, rawB_len]
    omega
  · have hp : paramB k = true := by simpa [okK, h31] using hk
    have hp' := paramB_iff.1 hp
    obtain ⟨K, rfl⟩ : ∃ K : Nat, k = K := ⟨k.toNat, by omega⟩
    have e : bodyB (K : Int) l = riceBs K l := by rw [bodyB, if_neg h31]; rfl
    rw [e, partQ, if_pos h31, if_pos hp]
    exact getS_back (by omega) l a c ha (by omega)
theorem oneQ_back {k : Int} {l : List Int} (hk : okK k = true) (ha : allW l = true) (hl : l.length ≤ 4096) (a c : List Bool) : oneQ (packB (a ++ partB k l ++ c)) a.length l.length = ((l, 0), a.length + (partB k l).length, 0) ∧ ((rGet (packB (a ++ partB k l ++ c)) a.length 0 5).1 : Int) = k := by
  have hk0 : 0 ≤ k ∧ k < 32 := by
    by_cases h31 : k = 31
    · omega
    · have hp : paramB k = true := by simpa [okK, h31] using hk
      have := paramB_iff.1 hp; omega
  have e1 : a ++ toB k.toNat 5 ++ (bodyB k l ++ c) = a ++ partB k l ++ c := by simp [partB_eq]
  have e2 : (a ++ toB k.toNat 5) ++ bodyB k l ++ c = a ++ partB k l ++ c := by simp [partB_eq]
  have hg := rGet_pack a (toB k.toNat 5) (bodyB k l ++ c) (by rw [toB_length]; omega)
  have hq := partQ_back hk ha hl (a ++ toB k.toNat 5) c
  rw [e1, toB_length, ofB_toB, Nat.mod_eq_of_lt (by omega), show ((5 : Nat) : Int) = 5 from rfl] at hg
  rw [e2, List.length_append, toB_length] at hq
  have hkn : ((k.toNat : Nat) : Int) = k := by omega
  refine ⟨?_, by rw [hg]; exact hkn⟩
  rw [oneQ, hg, if_neg (by simp)]
  simp only [hkn]
  rw [hq, partB_eq]
  simp [toB_length]
  omega

theorem putTo_split (o : Int) (ks s l : List Int) (i : Nat) : ∀ j, i ≤ j → ∃ r, putTo o ks s l j = putTo o ks s l i ++ r
  | 0, h => ⟨[], by obtain rfl : i = 0 := by omega
                    simp⟩
  | j + 1, h => by
    by_cases he : i = j + 1
    · subst he; exact ⟨[], by simp⟩
    · obtain ⟨r, hr⟩ := putTo_split o ks s l i j (by omega)
      exact ⟨r ++ partB (gi ks j) (partI s l j), by rw [putTo, hr, List.append_assoc]⟩
theorem partI_len {s l : List Int} {i : Nat} (h0 : 0 ≤ gi s i) (h : atI s (i + 1) ≤ l.length) : ((partI s l i).length : Int) = gi s i := by
  simp only [atI] at h
  unfold partI
  simp
  omega
theorem gTo_back {o : Int} {ks s l : List Int} (hk : ks.all okK = true) (ha : allW l = true) (hkl : ks.length = s.length) (hge : ∀ i, i < s.length → 0 ≤ gi s i ∧ gi s i ≤ 4096) (hat : atI s s.length ≤ l.length) (a c : List Bool) :
    ∀ i, i ≤ s.length → gTo (packB (a ++ putTo o ks s l s.length ++ c)) s (a.length + 4) i = ((ks.take i, l.take (atI s i), 0), a.length + (putTo o ks s l i).length, 0)
  | 0, _ => by simp [gTo, putTo, atI, toB_length]
  | i + 1, hi => by
    have ih := gTo_back (o := o) hk ha hkl hge hat a c i (by omega)
    obtain ⟨r, hr⟩ := putTo_split o ks s l (i + 1) s.length hi
    have hmo := atI_mono s (i + 1) s.length hi
    have hg := hge i (by omega)
    have hpl := partI_len (l := l) hg.1 (by omega)
    have e : a ++ putTo o ks s l s.length ++ c = (a ++ putTo o ks s l i) ++ partB (gi ks i) (partI s l i) ++ (r ++ c) := by rw [hr, putTo]; simp
    obtain ⟨h1, h2⟩ := oneQ_back (k := gi ks i) (by rw [List.all_eq_true] at hk; exact hk _ (gi_mem ks i (by omega))) (allW_part ha s i) (by omega) (a ++ putTo o ks s l i) (r ++ c)
    rw [← e, List.length_append] at h1 h2
    rw [hpl] at h1
    rw [gTo, ih, if_neg (by simp)]
    simp only
    rw [if_neg (by rw [h1]; simp), h1, h2, gi_take_snoc ks i (by omega)]
    simp only [Prod.mk.injEq, and_true, true_and]
    refine ⟨?_, ?_⟩
    · rw [atI, List.take_add]; rfl
    · rw [putTo, List.length_append]; omega

theorem may_iff {o n wm : Int} {ks : List Int} : mayB o ks n wm = true ↔ szB o n wm = true ∧ ks.length = (szS o n wm).length ∧ ks.all okK = true := by simp [mayB, and_assoc]
theorem right_iff {n wm : Int} {l : List Int} : rightB n wm l = true ↔ rowB n wm = true ∧ (l.length : Int) = n - wm ∧ allW l = true := by simp [rightB, and_assoc]

theorem getP_back {o n wm : Int} {ks l : List Int} (hm : mayB o ks n wm = true) (hr : rightB n wm l = true) (a c : List Bool) : getP (packB (a ++ putB o ks n wm l ++ c)) a.length 0 n wm = ((o, ks, l, 0), a.length + (putB o ks n wm l).length, 0) := by
  obtain ⟨hB, hkl, hk⟩ := may_iff.1 hm
  obtain ⟨hrow, hln, ha⟩ := right_iff.1 hr
  obtain ⟨_, ⟨o0, o8⟩, _, _⟩ := szB_iff.1 hB
  obtain ⟨hge, hat, hpos⟩ := sz_fact hB
  have hT := gTo_back (o := o) hk ha hkl hge (by omega) a c (szS o n wm).length (Nat.le_refl _)
  obtain ⟨r, hr⟩ := putTo_split o ks (szS o n wm) l 0 (szS o n wm).length (Nat.zero_le _)
  have hp : putB o ks n wm l = putTo o ks (szS o n wm) l (szS o n wm).length := rfl
  rw [hp]
  have e1 : a ++ toB o.toNat 4 ++ (r ++ c) = a ++ putTo o ks (szS o n wm) l (szS o n wm).length ++ c := by rw [hr, putTo]; simp
  have hg := rGet_pack a (toB o.toNat 4) (r ++ c) (by rw [toB_length]; omega)
  rw [e1, toB_length, ofB_toB, Nat.mod_eq_of_lt (by omega), show ((4 : Nat) : Int) = 4 from rfl] at hg
  have hon : ((o.toNat : Nat) : Int) = o := by omega
  have t1 : ks.take (szS o n wm).length = ks := by rw [← hkl]; exact List.take_length
  have t2 : l.take (atI (szS o n wm) (szS o n wm).length) = l := List.take_of_length_le (by omega)
  rw [getP, hrow, if_neg (by simp), hg]
  simp only [hon]
  rw [if_neg (by simp), hB, if_neg (by simp), hT, if_neg (by simp), t1, t2]

theorem partB_len {k : Int} {l : List Int} (hk : okK k = true) (ha : allW l = true) : ((partB k l).length : Int) = 5 + pcostI k l := by
  rw [partB_eq, bodyB, pcostI]
  split
  · rename_i h
    simp [toB_length, rawB_len, rawI]
  · rename_i h31
    have hp : paramB k = true := by simpa [okK, h31] using hk
    have hp' := paramB_iff.1 hp
    obtain ⟨K, rfl⟩ : ∃ K : Nat, k = K := ⟨k.toNat, by omega⟩
    have := riceBs_len (show K ≤ 25 by omega) l ha
    simp [toB_length]
    omega
theorem putTo_len {o : Int} {ks s l : List Int} (hk : ks.all okK = true) (ha : allW l = true) : ∀ i, i ≤ ks.length → ((putTo o ks s l i).length : Int) = costTo ks s l i
  | 0, _ => by simp [putTo, costTo, toB_length]
  | i + 1, hi => by
    have ih := putTo_len (o := o) (s := s) hk ha i (by omega)
    have h1 := partB_len (k := gi ks i) (by rw [List.all_eq_true] at hk; exact hk _ (gi_mem ks i (by omega))) (allW_part ha s i)
    rw [putTo, costTo, List.length_append, ← ih, ← h1]
    omega
theorem putB_len {o n wm : Int} {ks l : List Int} (hm : mayB o ks n wm = true) (hr : rightB n wm l = true) : ((putB o ks n wm l).length : Int) = costP o ks n wm l := by
  obtain ⟨hB, hkl, hk⟩ := may_iff.1 hm
  obtain ⟨hrow, hln, ha⟩ := right_iff.1 hr
  rw [costP, if_pos ⟨hm, hr⟩]
  exact putTo_len hk ha _ (by omega)

end Go.Proofs.Ytajkofndbeohpaa.VG
