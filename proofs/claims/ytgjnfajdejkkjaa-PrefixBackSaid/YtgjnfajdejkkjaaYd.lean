/-
  Symbols are got as they were put.
-/
import Derived.Test.YtgjnfajdejkkjaaYc
import Derived.Test.YtgjnfajdejkkjaaQp
namespace Go.Proofs.Ytgjnfajdejkkjaa.VG
open Go
set_option linter.unusedSimpArgs false
set_option linter.unusedVariables false
set_option maxRecDepth 20000

set_option maxHeartbeats 8000000 in
theorem get2_h {W w : World} {rest : List It} {b : Nat} {bs : List Nat} {p : Nat} {e n : Int} {G : Nat → Prop} {v : Value} {l : List Int} (H : Hp W w (.rr b bs p e :: rest)) (hl : l.length ≤ 1024) (hr : ∀ w', Hp W w' (.rr b bs p e :: rest) → Rd G w' v l.length (intsV l)) :
    Calls Try.prog 26 [.pointer (some ⟨b, 0, none⟩), v, .int .i64 n].toArray w (Ret fun r w' => ∃ u, r = .tuple #[u, .int .i64 (getP l bs p e n).1.2] ∧
      Hp W w' (.rr b bs (getP l bs p e n).2.1 (getP l bs p e n).2.2 :: .own 3 1 u (getP l bs p e n).1.1.length (intsV (getP l bs p e n).1.1) :: rest)) := by
  refine F_sound c26 (by simp [fc26]) ?_
  have hM : maxLen = 9223372036854775807 := rfl
  simp [fc26, s26]
  refine call_h (codes_c (hr _ H) (by omega)) (by simp) ?_
  rintro r w1 ⟨vw, rfl, HW⟩
  unfold OwnW at HW
  have H1 := H.join HW
  clear H HW
  have hnil : ∀ {w' : World} {p' : Nat} {e' : Int}, Hp W w' (.rr b bs p' e' :: rest) → Hp W w' (.rr b bs p' e' :: .own 3 1 (.slice none 0 0) ([] : List Int).length (intsV []) :: rest) := fun h => h.nilS.perm (by
    rw [List.cons_append]
    exact List.Perm.cons _ (List.perm_append_comm))
  have hdr : ∀ {w' : World} {x y : It}, Hp W w' ((x :: rest) ++ [y]) → Hp W w' (x :: rest) := fun h => (h.perm (List.perm_append_comm)).drop 0
  by_cases hbad : fullB l = false ∨ n < 0 ∨ 4194304 < n
  · have hg : getP l bs p e n = (([], 1), p, e) := by rw [getP, if_pos hbad]
    rw [hg]
    simp [erP]
    refine ite_r (t := true) (by by_cases h : fullB l = true <;> simp [h]; (rcases hbad with h' | h' | h' <;> simp_all)) (fun _ => ?_) (fun h => by cases h)
    simp
    exact hnil (hdr H1)
  rw [not_or, not_or] at hbad
  obtain ⟨hf, hn0, hn1⟩ := hbad
  have hf : fullB l = true := by simpa using hf
  obtain ⟨N, rfl⟩ : ∃ N : Nat, n = N := ⟨n.toNat, by omega⟩
  simp [erP, hf]
  refine ite_r (t := false) (by simp; omega) (fun h => by cases h) (fun _ => ?_)
  simp
  obtain ⟨FR, hR, _⟩ := H1.rr 0 rfl
  refine callp (err_c hR) (by simp) ?_
  by_cases he : e ≠ 0
  · have hg : getP l bs p e N = (([], e), p, e) := by rw [getP, if_neg (by rw [hf]; simp; omega), if_pos he]
    rw [hg]
    simp
    refine ite_r (t := true) (by simp [he]) (fun _ => ?_) (fun h => by cases h)
    refine callp (err_c hR) (by simp) ?_
    simp
    exact hnil (hdr H1)
  obtain rfl : e = 0 := by omega
  have hg : getP l bs p 0 N = decsN l bs N p [] := by rw [getP, if_neg (by rw [hf]; simp; omega), if_neg (by simp)]; rfl
  rw [hg]
  simp
  refine ite_r (t := false) (by simp) (fun h => by cases h) (fun _ => ?_)
  unfold codesP at H1
  rw [if_pos hf, show (cdW l).length = l.length from cdN_len l _] at H1
  have hu := H1.rd (rest.length + 1) (by simp; rfl)
  refine call_h (list_c (hr _ (hdr H1)).top hu.top hf) (by simp) ?_
  rintro r w2 ⟨t, rfl, HT⟩
  have H2 := (hdr H1).join HT
  clear H1 HT hR hu
  obtain ⟨lo, hlo, hl24, hdec⟩ := dec_all (l := l) hl bs 0
  have hdec : ∀ q, decT (tbl l (rk l).length).2.1 (tbl l (rk l).length).2.2 bs lo 1 0 q = decW l bs (rk l) 0 0 q := fun q => by
    obtain ⟨lo', hlo', _, h⟩ := dec_all (l := l) hl bs q
    obtain rfl : lo' = lo := by rw [hlo] at hlo'; exact_mod_cast hlo'.symm
    exact h
  rw [hlo] at H2
  have hfi : ∀ n, 0 ≤ (tbl l (rk l).length).2.1 n ∧ (tbl l (rk l).length).2.1 n ≤ 16777216 := fun n => ⟨(tbl_ok hl _ (Nat.le_refl _) n).2.2, tbl_fi hf _ (Nat.le_refl _) n⟩
  have hsl : ∀ n, ((tbl l (rk l).length).2.2 n).length ≤ 100000 := fun n => by
    have := tbl_len l n (rk l).length (Nat.le_refl _)
    have := rk_le l
    omega
  generalize (tbl l (rk l).length).2.1 = fi at *
  generalize (tbl l (rk l).length).2.2 = sy at *
  have H3 : Hp W w2 (.rr b bs p 0 :: .tb t lo fi sy :: .own 3 1 (.slice none 0 0) ([] : List Int).length (intsV []) :: rest) := H2.nilS.perm (by
    rw [List.cons_append, List.cons_append]
    refine List.Perm.cons _ ?_
    rw [List.append_assoc]
    exact List.perm_append_comm)
  clear H2
  simp
  generalize hD : decsN l bs N p [] = D
  refine for_r N (fun i env' w' => env' 0 = .pointer (some ⟨b, 0, none⟩) ∧ env' 10 = .pointer (some ⟨t, 0, none⟩) ∧ env' 37 = .int .i64 N ∧ env' 38 = .int .i64 i ∧ ∃ u out q, env' 11 = u ∧ out.length = i ∧ decsN l bs (N - i) q out = D ∧
    Hp W w' (.rr b bs q 0 :: .tb t lo fi sy :: .own 3 1 u out.length (intsV out) :: rest)) ?_ ?_ ?_
  · exact ⟨by simp, by simp, by simp, by simp, _, [], p, by simp, rfl, hD, H3⟩
  · rintro i env w3 hi ⟨e0, e10, e37, e38, u, out, q, e11, hol, hd, H⟩
    have wi : IntKind.i64.wrap ((i : Int) + 1) = ((i + 1 : Nat) : Int) := by rw [wI (by omega) (by omega)]; omega
    rw [show N - i = (N - (i + 1)) + 1 by omega, decsN] at hd
    simp [e37, e38]
    refine ite_r (t := true) (by simp; omega) (fun _ => ?_) (fun h => by cases h)
    simp [wp_blk]
    refine call_h (read_h H hl24 hfi hsl) (by simp [e0, e10]) ?_
    rw [hdec]
    rintro r w4 ⟨rfl, H⟩
    have hok := decW_ok (l := l) (bs := bs) (rk l) 0 0 q
    generalize decW l bs (rk l) 0 0 q = g at *
    obtain ⟨⟨x, er⟩, q', er'⟩ := g
    simp only at hd hok H
    simp
    by_cases her : er = 0
    · subst her
      obtain rfl : er' = 0 := hok rfl
      simp only [ne_eq, not_true_eq_false, if_false] at hd
      refine ite_r (t := false) (by simp) (fun h => by cases h) (fun _ => ?_)
      simp
      refine app1_h slTI 2 H rfl (u := .int .i64 x) rfl (by omega) (by omega) (by simp) (by simp [e11]) (by simp) (fun _ _ => trivial) ?_
      intro vb v' w5 w6 H
      refine ⟨.inl rfl, ?_⟩
      rw [intsV_snoc] at H
      simp [e38, wi]
      exact ⟨by simp [e0], by simp [e10], by simp [e37], out ++ [x], by simp [hol], q', hd, by rw [List.length_append]; exact H⟩
    · simp only [ne_eq, her, not_false_eq_true, if_true] at hd
      refine ite_r (t := true) (by simp [her]) (fun _ => ?_) (fun h => by cases h)
      simp
      subst hd
      have := (H.drop 1).drop 1
      exact ⟨_, ⟨rfl, rfl⟩, hnil this⟩
  · rintro env w3 ⟨e0, e10, e37, e38, u, out, q, e11, hol, hd, H⟩
    rw [Nat.sub_self, decsN] at hd
    subst hd
    simp [e37, e38]
    refine ite_r (t := false) (by simp) (fun h => by cases h) (fun _ => ?_)
    simp [e11]
    exact H.drop 1


/-! ### What was put is got -/
theorem bitsW_pack : ∀ (B P C : List Bool) (v : Nat), bitsW (packB (P ++ (B ++ C))) B.length v P.length = (v * 2 ^ B.length + ofB B, P.length + B.length, 0)
  | [], P, C, v => by simp [bitsW, ofB_nil]
  | x :: B, P, C, v => by
    have h1 := rGet_pack P [x] (B ++ C) (by simp)
    have e : P ++ [x] ++ (B ++ C) = P ++ (x :: B ++ C) := by simp
    rw [e] at h1
    have ih := bitsW_pack B (P ++ [x]) C (2 * v + ofB [x])
    rw [e, List.length_append, List.length_singleton] at ih
    rw [List.length_cons, bitsW]
    simp only [List.length_singleton] at h1
    rw [show ((1 : Nat) : Int) = 1 from rfl] at h1
    rw [h1]
    simp only [ne_eq, not_true_eq_false, if_false]
    rw [ih]
    have h2 := ofB_append [x] B
    rw [List.singleton_append] at h2
    rw [h2]
    refine Prod.ext ?_ (Prod.ext ?_ rfl)
    · show (2 * v + ofB [x]) * 2 ^ B.length + ofB B = v * 2 ^ (B.length + 1) + (ofB [x] * 2 ^ B.length + ofB B)
      rw [Nat.add_mul, Nat.pow_succ, Nat.mul_comm 2 v, Nat.mul_assoc v 2, Nat.mul_comm 2]
      omega
    · show P.length + 1 + B.length = P.length + (B.length + 1)
      omega
theorem take_word {d n m : Nat} (hm : m ≤ n) (hd : d < 2 ^ n) : ofB ((toB d n).take m) = d / 2 ^ (n - m) := by
  have h := toB_split d d n m hm (fun _ _ => rfl)
  rw [← h, List.take_left' (toB_length _ _), ofB_toB]
  refine Nat.mod_eq_of_lt ?_
  rw [Nat.div_lt_iff_lt_mul (Nat.two_pow_pos _), ← Nat.pow_add, show m + (n - m) = n by omega]
  exact hd
theorem decW_back {l : List Int} (hf : fullB l = true) {s n d : Nat} (hs : s < l.length) (hn : gi l s = n) (hd : gi (cdW l) s = d) (hdn : d < 2 ^ n) (P C : List Bool) : ∀ (R : List Nat) (j : Nat), j ≤ n → (∀ x ∈ R, x < l.length ∧ (j : Int) ≤ gi l x ∧ 1 ≤ gi l x) → R.Pairwise (fun a b => gi l a ≤ gi l b) → s ∈ R →
    decW l (packB (P ++ (toB d n ++ C))) R j (ofB ((toB d n).take j)) (P.length + j) = (((s : Int), 0), P.length + n, 0)
  | [], _, _, _, _, h => by cases h
  | x :: R, j, hj, hx, hp, hm => by
    have hp' := List.pairwise_cons.1 hp
    obtain ⟨x1, x2, x3⟩ := hx x (by simp)
    obtain ⟨m, hmm⟩ : ∃ m : Nat, gi l x = m := ⟨(gi l x).toNat, by omega⟩
    have hmn : m ≤ n := by
      rcases List.mem_cons.1 hm with rfl | h
      · omega
      · have := hp'.1 s h; omega
    rw [hmm] at x2 x3
    have hB : bitsW (packB (P ++ (toB d n ++ C))) (m - j) (ofB ((toB d n).take j)) (P.length + j) = (ofB ((toB d n).take m), P.length + m, 0) := by
      have hl : ((toB d n).take j).length = j := by rw [List.length_take, toB_length]; omega
      have hl2 : (((toB d n).drop j).take (m - j)).length = m - j := by rw [List.length_take, List.length_drop, toB_length]; omega
      have h := bitsW_pack (((toB d n).drop j).take (m - j)) (P ++ (toB d n).take j) ((toB d n).drop m ++ C) (ofB ((toB d n).take j))
      have hcat : (toB d n).take m = (toB d n).take j ++ ((toB d n).drop j).take (m - j) := by
        have := List.take_add (l := toB d n) (i := j) (j := m - j)
        rwa [show j + (m - j) = m by omega] at this
      have e : P ++ (toB d n).take j ++ (((toB d n).drop j).take (m - j) ++ ((toB d n).drop m ++ C)) = P ++ (toB d n ++ C) := by
        have : (toB d n).take m ++ (toB d n).drop m = toB d n := List.take_append_drop _ _
        rw [hcat] at this
        rw [List.append_assoc]
        congr 1
        rw [← List.append_assoc, ← List.append_assoc, this]
      rw [e, hl2, List.length_append, hl] at h
      rw [h, hcat, ofB_append, hl2]
      refine Prod.ext rfl (Prod.ext ?_ rfl)
      show P.length + j + (m - j) = P.length + m
      omega
    rw [decW, hmm, Int.toNat_natCast]
    simp only [hB]
    simp only [ne_eq, not_true_eq_false, if_false]
    by_cases hxs : x = s
    · subst hxs
      obtain rfl : m = n := by omega
      have hw : ofB ((toB d m).take m) = d := by rw [take_word (Nat.le_refl _) hdn]; simp
      rw [hw, if_pos hd]
    · have hsR : s ∈ R := by
        rcases List.mem_cons.1 hm with h | h
        · exact absurd h.symm hxs
        · exact h
      obtain ⟨c, hc, _⟩ := word_fits hf x1
      have hap := words_apart hf x1 hs hxs (by omega) (by omega) hc hd
      rw [hn, hmm, show ((n : Int) - m).toNat = n - m by omega] at hap
      rw [take_word hmn hdn, if_neg (by rw [hc]; intro h; exact hap (by omega)), ← take_word hmn hdn]
      refine decW_back hf hs hn hd hdn P C R m hmn (fun y hy => ?_) hp'.2 hsR
      obtain ⟨y1, y2, y3⟩ := hx y (by simp [hy])
      have := hp'.1 y hy
      exact ⟨y1, by omega, y3⟩
theorem symsB_cons (l : List Int) (x : Int) (r : List Int) : symsB l (x :: r) = syB l x ++ symsB l r := by simp [symsB]
theorem decsN_back {l : List Int} (hf : fullB l = true) : ∀ (xs : List Int) (P C : List Bool) (out : List Int), (∀ x ∈ xs, 0 ≤ x ∧ x < l.length ∧ gi l x.toNat ≠ 0) → decsN l (packB (P ++ (symsB l xs ++ C))) xs.length P.length out = ((out ++ xs, 0), P.length + (symsB l xs).length, 0)
  | [], P, C, out, _ => by simp [decsN, symsB]
  | x :: r, P, C, out, h => by
    obtain ⟨x0, x1, x2⟩ := h x (by simp)
    obtain ⟨s, rfl⟩ : ∃ s : Nat, x = s := ⟨x.toNat, by omega⟩
    rw [Int.toNat_natCast] at x2
    have hs : s < l.length := by omega
    have hok := okLen_iff.1 (List.all_eq_true.1 (full_parts hf).2.1 _ (gi_mem l s hs))
    obtain ⟨d, hd, hdn⟩ := word_fits hf hs
    obtain ⟨n, hn⟩ : ∃ n : Nat, gi l s = n := ⟨(gi l s).toNat, by omega⟩
    rw [hn, Int.toNat_natCast] at hdn
    have hsy : syB l (s : Int) = toB d n := by unfold syB; rw [Int.toNat_natCast, hd, hn, Int.toNat_natCast, Int.toNat_natCast]
    have hrk : ∀ y ∈ rk l, y < l.length ∧ ((0 : Nat) : Int) ≤ gi l y ∧ 1 ≤ gi l y := fun y hy => by
      obtain ⟨a, k, b, c⟩ := rkN_mem.1 hy
      exact ⟨a, by omega, by omega⟩
    have hmem : s ∈ rk l := rkN_mem.2 ⟨hs, n - 1, by omega, by omega⟩
    have h1 := decW_back hf hs hn hd hdn P (symsB l r ++ C) (rk l) 0 (by omega) hrk (rkN_pw l 24) hmem
    rw [List.take_zero, ofB_nil, Nat.add_zero, ← hsy] at h1
    have e1 : P ++ (syB l (s : Int) ++ (symsB l r ++ C)) = P ++ (symsB l ((s : Int) :: r) ++ C) := by rw [symsB_cons]; simp
    rw [e1] at h1
    rw [List.length_cons, decsN, h1]
    simp only [ne_eq, not_true_eq_false, if_false]
    have ih := decsN_back hf r (P ++ syB l (s : Int)) C (out ++ [(s : Int)]) (fun y hy => h y (by simp [hy]))
    have e2 : P ++ syB l (s : Int) ++ (symsB l r ++ C) = P ++ (symsB l ((s : Int) :: r) ++ C) := by rw [symsB_cons]; simp
    have e3 : (P ++ syB l (s : Int)).length = P.length + n := by rw [List.length_append, hsy, toB_length]
    rw [e2, e3] at ih
    rw [ih, symsB_cons, List.length_append, hsy, toB_length]
    refine Prod.ext ?_ (Prod.ext ?_ rfl)
    · simp
    · show P.length + n + (symsB l r).length = P.length + (n + (symsB l r).length)
      omega
theorem getP_back {l : List Int} (hf : fullB l = true) {xs : List Int} (P C : List Bool) (hx : ∀ x ∈ xs, 0 ≤ x ∧ x < l.length ∧ gi l x.toNat ≠ 0) (hl : xs.length ≤ 1000) : getP l (packB (P ++ (symsB l xs ++ C))) P.length 0 xs.length = ((xs, 0), P.length + (symsB l xs).length, 0) := by
  unfold getP
  rw [if_neg (by rw [hf]; simp; omega), if_neg (by simp), Int.toNat_natCast, decsN_back hf xs P C [] hx]
  rfl

end Go.Proofs.Ytgjnfajdejkkjaa.VG
