/-
  Symbols are got as the document says; the law.
-/
import Derived.Test.YtgjnfajdejkkjaaQx
import Derived.Test.YtgjnfajdejkkjaaQk
import Derived.Test.YtgjnfajdejkkjaaCm
namespace Go.Proofs.Ytgjnfajdejkkjaa.VG
open Go
set_option linter.unusedSimpArgs false
set_option linter.unusedVariables false
set_option maxRecDepth 20000

set_option maxHeartbeats 8000000 in
theorem dget_h {W w : World} {rest : List It} {b : Nat} {bs : List Nat} {p : Nat} {e n : Int} {v vB : Value} {l : List Int} (H : Hp W w (.blk b #[vB, .int .i64 p, .int .i64 e] :: rest)) (hB : Rd (fun k => k < W.heap.size) W vB bs.length (bytesV bs)) (hfB : ∀ x ∈ bs, x < 256) (hle : p ≤ 8 * bs.length)
    (hsm : bs.length ≤ 17592186044416) (hl : l.length ≤ 1024) (hr : Rd (fun k => k < W.heap.size) W v l.length (intsV l)) :
    Calls Try.prog 27 [.pointer (some ⟨b, 0, none⟩), v, .int .i64 n].toArray w (Ret fun r w' => ∃ u, r = .tuple #[u, .int .i64 (getP l bs p e n).1.2] ∧
      Hp W w' (.blk b #[vB, .int .i64 (getP l bs p e n).2.1, .int .i64 (getP l bs p e n).2.2] :: .own 3 1 u (getP l bs p e n).1.1.length (intsV (getP l bs p e n).1.1) :: rest)) := by
  refine F_sound c27 (by simp [fc27]) ?_
  have hM : maxLen = 9223372036854775807 := rfl
  simp [fc27, s27]
  refine call_h (codes2_c (hr.at H.mod) (by omega)) (by simp) ?_
  rintro r w1 ⟨vw, rfl, HW⟩
  unfold OwnW at HW
  have H1 := H.join HW
  clear H HW
  have hnil : ∀ {w' : World} {x : It}, Hp W w' (x :: rest) → Hp W w' (x :: .own 3 1 (.slice none 0 0) ([] : List Int).length (intsV []) :: rest) := fun h => h.nilS.perm (by
    rw [List.cons_append]
    exact List.Perm.cons _ (List.perm_append_comm))
  have hdr : ∀ {w' : World} {x y : It}, Hp W w' ((x :: rest) ++ [y]) → Hp W w' (x :: rest) := fun h => (h.perm (List.perm_append_comm)).drop 0
  by_cases hbad : fullB l = false ∨ n < 0 ∨ 4194304 < n
  · have hg : getP l bs p e n = (([], 1), p, e) := by rw [getP, if_pos hbad]
    rw [hg]
    simp [erP]
    refine ite_r (t := true) (by by_cases h : fullB l = true <;> simp [h]; (rcases hbad with h' | h' | h' <;> simp_all)) (fun _ => ?_) (fun h => by cases h)
    simp
    exact hnil (hdr H1)
  rw [not_or, not_or] at hbad
  obtain ⟨hf, hn0, hn1⟩ := hbad
  have hf : fullB l = true := by simpa using hf
  obtain ⟨N, rfl⟩ : ∃ N : Nat, n = N := ⟨n.toNat, by omega⟩
  have c2 := H1.blk 0 rfl 2
  simp at c2
  simp [erP, hf, c2]
  refine ite_r (t := false) (by simp; omega) (fun h => by cases h) (fun _ => ?_)
  simp [c2]
  by_cases he : e ≠ 0
  · have hg : getP l bs p e N = (([], e), p, e) := by rw [getP, if_neg (by rw [hf]; simp; omega), if_pos he]
    rw [hg]
    refine ite_r (t := true) (by simp [he]) (fun _ => ?_) (fun h => by cases h)
    have H1 := H1.drew
    have c2 := H1.blk 0 rfl 2
    simp at c2
    simp [wp_draw, c2]
    exact hnil (hdr H1)
  obtain rfl : e = 0 := by omega
  have hg : getP l bs p 0 N = decsN l bs N p [] := by rw [getP, if_neg (by rw [hf]; simp; omega), if_neg (by simp)]; rfl
  rw [hg]
  refine ite_r (t := false) (by simp) (fun h => by cases h) (fun _ => ?_)
  unfold codesP at H1
  rw [if_pos hf, show (cdW l).length = l.length from cdN_len l _] at H1
  simp
  refine call_h (used_c (hr.at H1.mod) (by omega)) (by simp) ?_
  rintro rv w2 HU
  unfold OwnN at HU
  have H2 := H1.join HU
  clear H1 HU
  have H3 : Hp W w2 (WdI b vB p 0 vw rv l (.own 3 1 (.slice none 0 0) ([] : List Int).length (intsV []) :: rest)) := H2.nilS.perm (by
    unfold WdI
    rw [List.cons_append, List.cons_append, List.cons_append]
    refine List.Perm.cons _ ?_
    simp only [List.append_assoc, List.singleton_append]
    exact List.perm_append_comm (l₁ := rest) (l₂ := [_, _, _]))
  clear H2
  simp
  generalize hD : decsN l bs N p [] = D
  refine for_r N (fun i env' w' => env' 0 = .pointer (some ⟨b, 0, none⟩) ∧ env' 1 = v ∧ env' 8 = vw ∧ env' 10 = rv ∧ env' 2 = .int .i64 N ∧ env' 12 = .int .i64 i ∧ ∃ u out q, env' 11 = u ∧ out.length = i ∧ q ≤ 8 * bs.length ∧ decsN l bs (N - i) q out = D ∧
    Hp W w' (WdI b vB q 0 vw rv l (.own 3 1 u out.length (intsV out) :: rest))) ?_ ?_ ?_
  · exact ⟨by simp, by simp, by simp, by simp, by simp, by simp, _, [], p, by simp, rfl, hle, hD, H3⟩
  · rintro i env w3 hi ⟨e0, e1, e8, e10, e2, e12, u, out, q, e11, hol, hq, hd, H⟩
    have wi : IntKind.i64.wrap ((i : Int) + 1) = ((i + 1 : Nat) : Int) := by rw [wI (by omega) (by omega)]; omega
    rw [show N - i = (N - (i + 1)) + 1 by omega, decsN] at hd
    simp [e2, e12]
    refine ite_r (t := true) (by simp; omega) (fun _ => ?_) (fun h => by cases h)
    simp [wp_blk]
    refine call_h (word_h H hB hfB hq hsm hl hr) (by simp [e0, e1, e8, e10]) ?_
    rintro r w4 ⟨rfl, hq', H⟩
    have hok := decW_ok (l := l) (bs := bs) (rk l) 0 0 q
    generalize decW l bs (rk l) 0 0 q = g at *
    obtain ⟨⟨x, er⟩, q', er'⟩ := g
    simp only at hd hok H hq'
    simp
    by_cases her : er = 0
    · subst her
      obtain rfl : er' = 0 := hok rfl
      simp only [ne_eq, not_true_eq_false, if_false] at hd
      refine ite_r (t := false) (by simp) (fun h => by cases h) (fun _ => ?_)
      simp
      refine app1_h slTI 3 H rfl (u := .int .i64 x) rfl (by omega) (by omega) (by simp) (by simp [e11]) (by simp) (fun _ _ => trivial) ?_
      intro vb v' w5 w6 H
      refine ⟨.inl rfl, ?_⟩
      rw [intsV_snoc] at H
      simp [e12, wi]
      exact ⟨by simp [e0], by simp [e1], by simp [e8], by simp [e10], by simp [e2], out ++ [x], by simp [hol], q', hq', hd, by rw [List.length_append]; exact H⟩
    · simp only [ne_eq, her, not_false_eq_true, if_true] at hd
      refine ite_r (t := true) (by simp [her]) (fun _ => ?_) (fun h => by cases h)
      simp
      subst hd
      have := ((H.drop 1).drop 1).drop 1
      exact ⟨_, ⟨rfl, rfl⟩, hnil this⟩
  · rintro env w3 ⟨e0, e1, e8, e10, e2, e12, u, out, q, e11, hol, hq, hd, H⟩
    rw [Nat.sub_self, decsN] at hd
    subst hd
    simp [e2, e12]
    refine ite_r (t := false) (by simp) (fun h => by cases h) (fun _ => ?_)
    simp [e11]
    exact (H.drop 1).drop 1

end Go.Proofs.Ytgjnfajdejkkjaa.VG
