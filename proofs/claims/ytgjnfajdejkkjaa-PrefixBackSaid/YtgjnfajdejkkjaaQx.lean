/-
  Symbols are got: the program's way and the document's.
-/
import Derived.Test.YtgjnfajdejkkjaaQw
namespace Go.Proofs.Ytgjnfajdejkkjaa.VG
open Go
set_option linter.unusedSimpArgs false
set_option linter.unusedVariables false
set_option maxRecDepth 20000

/-- Symbols, one after another. -/
def decsN (l : List Int) (bs : List Nat) : Nat → Nat → List Int → (List Int × Int) × Nat × Int
  | 0, p, out => ((out, 0), p, 0)
  | k + 1, p, out => if (decW l bs (rk l) 0 0 p).1.2 ≠ 0 then (([], (decW l bs (rk l) 0 0 p).1.2), (decW l bs (rk l) 0 0 p).2.1, (decW l bs (rk l) 0 0 p).2.2) else decsN l bs k (decW l bs (rk l) 0 0 p).2.1 (out ++ [(decW l bs (rk l) 0 0 p).1.1])
def getP (l : List Int) (bs : List Nat) (p : Nat) (e n : Int) : (List Int × Int) × Nat × Int :=
  if fullB l = false ∨ n < 0 ∨ 4194304 < n then (([], 1), p, e) else if e ≠ 0 then (([], e), p, e) else decsN l bs n.toNat p []
theorem decW_ok {l : List Int} {bs : List Nat} : ∀ (r : List Nat) (n v p : Nat), (decW l bs r n v p).1.2 = 0 → (decW l bs r n v p).2.2 = 0
  | [], n, v, p => fun h => by simp [decW] at h
  | s :: r, n, v, p => fun h => by
    rw [decW] at h ⊢
    split at h
    · rename_i h1; rw [if_pos h1]; exact h
    · rename_i h1
      rw [if_neg h1]
      split at h
      · rename_i h2; rw [if_pos h2]
      · rename_i h2; rw [if_neg h2]; exact decW_ok r _ _ _ h

set_option maxHeartbeats 8000000 in
theorem get_h {W w : World} {rest : List It} {b : Nat} {bs : List Nat} {p : Nat} {e n : Int} {v : Value} {l : List Int} (H : Hp W w (.rr b bs p e :: rest)) (hl : l.length ≤ 1024) (hr : Rd (fun k => k < W.heap.size) W v l.length (intsV l)) :
    Calls Try.prog 26 [.pointer (some ⟨b, 0, none⟩), v, .int .i64 n].toArray w (Ret fun r w' => ∃ u, r = .tuple #[u, .int .i64 (getP l bs p e n).1.2] ∧
      Hp W w' (.rr b bs (getP l bs p e n).2.1 (getP l bs p e n).2.2 :: .own 3 1 u (getP l bs p e n).1.1.length (intsV (getP l bs p e n).1.1) :: rest)) := by
  refine F_sound c26 (by simp [fc26]) ?_
  have hM : maxLen = 9223372036854775807 := rfl
  simp [fc26, s26]
  refine call_h (codes_c (hr.at H.mod) (by omega)) (by simp) ?_
  rintro r w1 ⟨vw, rfl, HW⟩
  unfold OwnW at HW
  have H1 := H.join HW
  clear H HW
  have hnil : ∀ {w' : World} {p' : Nat} {e' : Int}, Hp W w' (.rr b bs p' e' :: rest) → Hp W w' (.rr b bs p' e' :: .own 3 1 (.slice none 0 0) ([] : List Int).length (intsV []) :: rest) := fun h => h.nilS.perm (by
    rw [List.cons_append]
    exact List.Perm.cons _ (List.perm_append_comm))
  have hdr : ∀ {w' : World} {x y : It}, Hp W w' ((x :: rest) ++ [y]) → Hp W w' (x :: rest) := fun h => (h.perm (List.perm_append_comm)).drop 0
  by_cases hbad : fullB l = false ∨ n < 0 ∨ 4194304 < n
  · have hg : getP l bs p e n = (([], 1), p, e) := by rw [getP, if_pos hbad]
    rw [hg]
    simp [erP]
    refine ite_r (t := true) (by by_cases h : fullB l = true <;> simp [h]; (rcases hbad with h' | h' | h' <;> simp_all)) (fun _ => ?_) (fun h => by cases h)
    simp
    exact hnil (hdr H1)
  rw [not_or, not_or] at hbad
  obtain ⟨hf, hn0, hn1⟩ := hbad
  have hf : fullB l = true := by simpa using hf
  obtain ⟨N, rfl⟩ : ∃ N : Nat, n = N := ⟨n.toNat, by omega⟩
  simp [erP, hf]
  refine ite_r (t := false) (by simp; omega) (fun h => by cases h) (fun _ => ?_)
  simp
  obtain ⟨FR, hR, _⟩ := H1.rr 0 rfl
  refine callp (err_c hR) (by simp) ?_
  by_cases he : e ≠ 0
  · have hg : getP l bs p e N = (([], e), p, e) := by rw [getP, if_neg (by rw [hf]; simp; omega), if_pos he]
    rw [hg]
    simp
    refine ite_r (t := true) (by simp [he]) (fun _ => ?_) (fun h => by cases h)
    refine callp (err_c hR) (by simp) ?_
    simp
    exact hnil (hdr H1)
  obtain rfl : e = 0 := by omega
  have hg : getP l bs p 0 N = decsN l bs N p [] := by rw [getP, if_neg (by rw [hf]; simp; omega), if_neg (by simp)]; rfl
  rw [hg]
  simp
  refine ite_r (t := false) (by simp) (fun h => by cases h) (fun _ => ?_)
  unfold codesP at H1
  rw [if_pos hf, show (cdW l).length = l.length from cdN_len l _] at H1
  have hu := H1.rd (rest.length + 1) (by simp; rfl)
  refine call_h (list_c (hr.at H1.mod).top hu.top hf) (by simp) ?_
  rintro r w2 ⟨t, rfl, HT⟩
  have H2 := (hdr H1).join HT
  clear H1 HT hR hu
  obtain ⟨lo, hlo, hl24, hdec⟩ := dec_all (l := l) hl bs 0
  have hdec : ∀ q, decT (tbl l (rk l).length).2.1 (tbl l (rk l).length).2.2 bs lo 1 0 q = decW l bs (rk l) 0 0 q := fun q => by
    obtain ⟨lo', hlo', _, h⟩ := dec_all (l := l) hl bs q
    obtain rfl : lo' = lo := by rw [hlo] at hlo'; exact_mod_cast hlo'.symm
    exact h
  rw [hlo] at H2
  have hfi : ∀ n, 0 ≤ (tbl l (rk l).length).2.1 n ∧ (tbl l (rk l).length).2.1 n ≤ 16777216 := fun n => ⟨(tbl_ok hl _ (Nat.le_refl _) n).2.2, tbl_fi hf _ (Nat.le_refl _) n⟩
  have hsl : ∀ n, ((tbl l (rk l).length).2.2 n).length ≤ 100000 := fun n => by
    have := tbl_len l n (rk l).length (Nat.le_refl _)
    have := rk_le l
    omega
  generalize (tbl l (rk l).length).2.1 = fi at *
  generalize (tbl l (rk l).length).2.2 = sy at *
  have H3 : Hp W w2 (.rr b bs p 0 :: .tb t lo fi sy :: .own 3 1 (.slice none 0 0) ([] : List Int).length (intsV []) :: rest) := H2.nilS.perm (by
    rw [List.cons_append, List.cons_append]
    refine List.Perm.cons _ ?_
    rw [List.append_assoc]
    exact List.perm_append_comm)
  clear H2
  simp
  generalize hD : decsN l bs N p [] = D
  refine for_r N (fun i env' w' => env' 0 = .pointer (some ⟨b, 0, none⟩) ∧ env' 10 = .pointer (some ⟨t, 0, none⟩) ∧ env' 37 = .int .i64 N ∧ env' 38 = .int .i64 i ∧ ∃ u out q, env' 11 = u ∧ out.length = i ∧ decsN l bs (N - i) q out = D ∧
    Hp W w' (.rr b bs q 0 :: .tb t lo fi sy :: .own 3 1 u out.length (intsV out) :: rest)) ?_ ?_ ?_
  · exact ⟨by simp, by simp, by simp, by simp, _, [], p, by simp, rfl, hD, H3⟩
  · rintro i env w3 hi ⟨e0, e10, e37, e38, u, out, q, e11, hol, hd, H⟩
    have wi : IntKind.i64.wrap ((i : Int) + 1) = ((i + 1 : Nat) : Int) := by rw [wI (by omega) (by omega)]; omega
    rw [show N - i = (N - (i + 1)) + 1 by omega, decsN] at hd
    simp [e37, e38]
    refine ite_r (t := true) (by simp; omega) (fun _ => ?_) (fun h => by cases h)
    simp [wp_blk]
    refine call_h (read_h H hl24 hfi hsl) (by simp [e0, e10]) ?_
    rw [hdec]
    rintro r w4 ⟨rfl, H⟩
    have hok := decW_ok (l := l) (bs := bs) (rk l) 0 0 q
    generalize decW l bs (rk l) 0 0 q = g at *
    obtain ⟨⟨x, er⟩, q', er'⟩ := g
    simp only at hd hok H
    simp
    by_cases her : er = 0
    · subst her
      obtain rfl : er' = 0 := hok rfl
      simp only [ne_eq, not_true_eq_false, if_false] at hd
      refine ite_r (t := false) (by simp) (fun h => by cases h) (fun _ => ?_)
      simp
      refine app1_h slTI 2 H rfl (u := .int .i64 x) rfl (by omega) (by omega) (by simp) (by simp [e11]) (by simp) (fun _ _ => trivial) ?_
      intro vb v' w5 w6 H
      refine ⟨.inl rfl, ?_⟩
      rw [intsV_snoc] at H
      simp [e38, wi]
      exact ⟨by simp [e0], by simp [e10], by simp [e37], out ++ [x], by simp [hol], q', hd, by rw [List.length_append]; exact H⟩
    · simp only [ne_eq, her, not_false_eq_true, if_true] at hd
      refine ite_r (t := true) (by simp [her]) (fun _ => ?_) (fun h => by cases h)
      simp
      subst hd
      have := (H.drop 1).drop 1
      exact ⟨_, ⟨rfl, rfl⟩, hnil this⟩
  · rintro env w3 ⟨e0, e10, e37, e38, u, out, q, e11, hol, hd, H⟩
    rw [Nat.sub_self, decsN] at hd
    subst hd
    simp [e37, e38]
    refine ite_r (t := false) (by simp) (fun h => by cases h) (fun _ => ?_)
    simp [e11]
    exact H.drop 1

end Go.Proofs.Ytgjnfajdejkkjaa.VG
