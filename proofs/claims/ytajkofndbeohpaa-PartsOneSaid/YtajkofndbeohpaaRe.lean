/-
  Rice: the document's Get.
-/
import Derived.Test.YtajkofndbeohpaaRd
namespace Go.Proofs.Ytajkofndbeohpaa.VG
open Go
set_option linter.unusedSimpArgs false
set_option linter.unusedVariables false

theorem or_low (q K low : Nat) (hq : q < 32) (hK : K ≤ 25) (hl : low < 2 ^ K) : bitw .or .u64 ((q * 2 ^ K : Nat) : Int) (low : Int) = ((q * 2 ^ K + low : Nat) : Int) := by
  have h2 : 2 ^ K ≤ 2 ^ 25 := Nat.pow_le_pow_right (by omega) hK
  have h3 : q * 2 ^ K ≤ 31 * 2 ^ 25 := Nat.mul_le_mul (by omega) h2
  rw [bitw_or (by simp only [IntKind.bits]; omega) (by simp only [IntKind.bits]; omega), Nat.mul_comm q, ← Nat.two_pow_add_eq_or_of_lt hl]
  rw [Nat.mul_comm] at h3
  exact wrap_nat_u64 (by omega)

set_option maxHeartbeats 2000000 in
theorem xrget_c {w : World} {G : Nat → Prop} {b : Nat} {v : Value} {l : List Nat} {p : Nat} {e : Int} (h : Yr w G b v l p e) (hG : ∀ k, G k → k < w.heap.size) (k n : Int) :
    Calls Try.prog 76 [.pointer (some ⟨b, 0, none⟩), .int .i64 k, .int .i64 n].toArray w (Ret fun r w' => RowNew w w' r (getS l p e k n).1 ∧ YrAfter w G b v l (getS l p e k n).2.1 (getS l p e k n).2.2 w') := by
  refine F_sound c76 (by simp [fc76]) ?_
  simp [fc76, s76]
  refine callp (rparam2_c k) (by simp) ?_
  by_cases hbad : paramB k = false ∨ n < 0 ∨ 4194304 < n
  · simp
    refine ite_r (t := true) (by rcases hbad with h | h | h <;> simp [h]) (fun _ => ?_) (fun h => by cases h)
    have : getS l p e k n = (([], 1), p, e) := by rw [getS, if_pos hbad]
    simp [this]
    exact ⟨RowNew.bad, h, Mod.refl _ _⟩
  have hk : paramB k = true := by simpa using fun h => hbad (.inl h)
  have hk' := paramB_iff.1 hk
  rw [not_or] at hbad
  obtain ⟨c0, c1, c2, cS, cL⟩ := h.sl
  simp
  refine ite_r (t := false) (by simp [hk]; omega) (fun h => by cases h) (fun _ => ?_)
  simp [c2]
  by_cases he : e ≠ 0
  · refine ite_r (t := true) (by simp [he]) (fun _ => ?_) (fun h => by cases h)
    have : getS l p e k n = (([], e), p, e) := by rw [getS, if_neg (by rw [hk]; simp; omega), if_pos he]
    simp [this, c2]
    exact ⟨RowNew.bad, h.mod (Mod.refl none' _).drew (fun _ _ h => h) (fun h => h), (Mod.refl _ _).drew⟩
  obtain rfl : e = 0 := by omega
  refine ite_r (t := false) (by simp) (fun h => by cases h) (fun _ => ?_)
  have hGs : getS l p 0 k n = getF l k.toNat n.toNat p [] := by rw [getS, if_neg (by rw [hk]; simp; omega), if_neg (by simp)]
  rw [hGs]
  obtain ⟨K, rfl⟩ : ∃ K : Nat, k = K := ⟨k.toNat, by omega⟩
  obtain ⟨N, rfl⟩ : ∃ N : Nat, n = N := ⟨n.toNat, by omega⟩
  simp only [Int.toNat_natCast]
  simp
  have wK : IntKind.u64.wrap (K : Int) = K := wU (by omega) (by omega)
  refine for_r N (fun i env' w' => env' 0 = .pointer (some ⟨b, 0, none⟩) ∧ env' 1 = .int .i64 K ∧ env' 2 = .int .i64 N ∧ env' 9 = .int .i64 i ∧
    ∃ out q, out.length = i ∧ YrAfter w G b v l q 0 w' ∧ w'.ownsRow 0 3 1 (env' 8) i (intsV out) ∧ (∀ k, (env' 8).ownBlock = some k → w.heap.size ≤ k) ∧ getF l K N p [] = getF l K (N - i) q out) ?_ ?_ ?_
  · simp
    exact ⟨p, ⟨h, Mod.refl _ _⟩, by simpa using World.ownsRow_nil _ _ _ _, fun k hk => by simp [Value.ownBlock] at hk, rfl⟩
  · rintro i env w' hi ⟨e0, e1, e2, e9, out, q, hol, ⟨R, M⟩, ho, hu, hF⟩
    rw [show N - i = (N - (i + 1)) + 1 by omega, getF] at hF
    simp [e2, e9]
    refine ite_r (t := true) (by simp [hi]) (fun _ => ?_) (fun h => by cases h)
    simp [wp_blk]
    refine call_h (yunary_c R 32) (by simp [e0]) ?_
    rintro r w1 ⟨rfl, R1, M1⟩
    have hO : oneS l q K = if (rUnary l q 0 32).2.2 ≠ 0 then ((0, (rUnary l q 0 32).2.2), (rUnary l q 0 32).2)
      else if (rUnary l q 0 32).1 < 32 then
        ((unfI ((rUnary l q 0 32).1 * 2 ^ K + (rGet l (rUnary l q 0 32).2.1 0 K).1), (rGet l (rUnary l q 0 32).2.1 0 K).2.2), (rGet l (rUnary l q 0 32).2.1 0 K).2)
      else if (rGet l (rUnary l q 0 32).2.1 0 32).2.2 ≠ 0 then ((0, (rGet l (rUnary l q 0 32).2.1 0 32).2.2), (rGet l (rUnary l q 0 32).2.1 0 32).2)
      else if 2147483648 ≤ (rGet l (rUnary l q 0 32).2.1 0 32).1 ∨ (rGet l (rUnary l q 0 32).2.1 0 32).1 / 2 ^ K < 32 then ((0, 2), (rGet l (rUnary l q 0 32).2.1 0 32).2)
      else ((unfI (rGet l (rUnary l q 0 32).2.1 0 32).1, 0), (rGet l (rUnary l q 0 32).2.1 0 32).2) := rfl
    have hok := oneS_ok (l := l) (p := q) (K := K)
    generalize oneS l q K = O at *
    have hzb := rUnary_bd l q 0 32
    have hz0 : (rUnary l q 0 32).2.2 ≠ 0 → (rUnary l q 0 32).1 = 0 := by
      intro hne
      have key : ∀ f z, (unF l q 32 f z).2.2 ≠ 0 → (unF l q 32 f z).1 = 0 := by
        intro f
        induction f with
        | zero => intro z _; rfl
        | succ f ih =>
          intro z hh
          simp only [unF] at hh ⊢
          split
          · rfl
          · rename_i h1
            rw [if_neg h1] at hh
            split
            · rename_i h2; rw [if_pos h2] at hh; exact absurd rfl hh
            · rename_i h2
              rw [if_neg h2] at hh
              split
              · rfl
              · rename_i h3; rw [if_neg h3] at hh; exact ih _ hh
      have e3 : rUnary l q 0 32 = unF l q 32 (8 * l.length - q + 1) 0 := rfl
      rw [e3] at hne ⊢
      exact key _ _ hne
    generalize rUnary l q 0 32 = U at *
    obtain ⟨z, p1, e1'⟩ := U
    simp only at *
    have wz : IntKind.u64.wrap (z : Int) = z := wU (by omega) (by omega)
    simp
    -- what stands in 11, and where the reader is, behind the reading of one
    refine ite_cut (t := decide (z < 32)) (fun env2 w2 => env2 0 = .pointer (some ⟨b, 0, none⟩) ∧ env2 1 = .int .i64 K ∧ env2 2 = .int .i64 N ∧ env2 9 = .int .i64 i ∧ env2 8 = env 8 ∧
      ∃ u : Nat, u < 18446744073709551616 ∧ env2 11 = .int .u64 u ∧ YrAfter w' G b v l O.2.1 O.2.2 w2 ∧ O.1.2 = O.2.2 ∧ (O.2.2 = 0 → O.1.1 = unfI u)) ?_ ?_ ?_ ?_
    · simp; omega
    · intro h32
      have h32 : z < 32 := by simpa using h32
      obtain ⟨hs1, hs2⟩ := shlq z K h32 (by omega)
      simp [e1, wz, wK]
      by_cases hz : e1' ≠ 0
      · -- nothing more is read
        rw [if_pos hz] at hO
        have hzz := hz0 hz
        subst hzz
        refine call_h (yget_c R1 K) (by simp [e0, e1]) ?_
        have hg0 : rGet l p1 e1' K = (0, p1, e1') := by unfold rGet; rw [if_pos hz]
        rw [hg0]
        rintro r w2 ⟨rfl, R2, M2⟩
        have hor := or_low 0 K 0 (by omega) (by omega) (Nat.two_pow_pos K)
        simp [e0, e1, e2, e9, wz, wK]
        refine ⟨0, by omega, ?_, by rw [hO]; exact ⟨R2, M1.tr M2⟩, by rw [hO], fun h => by rw [hO] at h; exact absurd h hz⟩
        have hsh : shl .u64 (0 : Int) (K : Int) = 0 := by simpa using hs1
        rw [show IntKind.u64.wrap (0 : Int) = 0 from by decide, hsh]
        decide
      · obtain rfl : e1' = 0 := by omega
        rw [if_neg (by simp), if_pos h32] at hO
        refine call_h (yget_c R1 K) (by simp [e0, e1]) ?_
        rintro r w2 ⟨rfl, R2, M2⟩
        have hg := rGet_lt l p1 0 K
        have h2 : 2 ^ K ≤ 2 ^ 25 := Nat.pow_le_pow_right (by omega) (by omega)
        generalize rGet l p1 0 K = g at *
        obtain ⟨low, p2, e2'⟩ := g
        simp only at *
        have hor := or_low z K low h32 (by omega) hg
        simp [-Int.natCast_add, -Int.natCast_mul, -Int.natCast_pow, e0, e1, e2, e9, wz, wK, hs1, hor]
        exact ⟨z * 2 ^ K + low, by omega, by simp, by rw [hO]; exact ⟨R2, M1.tr M2⟩, by rw [hO], fun _ => by rw [hO]⟩
    · intro h32
      have h32 : ¬ z < 32 := by simpa using h32
      by_cases hz : e1' ≠ 0
      · have := hz0 hz; omega
      obtain rfl : e1' = 0 := by omega
      rw [if_neg (by simp), if_neg h32] at hO
      refine call_h (yget_c R1 32) (by simp [e0]) ?_
      rintro r w2 ⟨rfl, R2, M2⟩
      have hg := rGet_lt l p1 0 32
      rw [show ((32 : Nat) : Int) = 32 from rfl] at hg
      generalize rGet l p1 0 32 = g at *
      obtain ⟨u, p2, e2'⟩ := g
      simp only at *
      obtain ⟨d0, d1, d2, _, _⟩ := R2.sl
      have e1s : shr .u64 (u : Int) (K : Int) = ((u / 2 ^ K : Nat) : Int) := shrK _ K (by omega) (by omega)
      generalize u / 2 ^ K = qq at *
      simp [e0, e1, d2, wK, e1s]
      by_cases hbad2 : e2' = 0 ∧ (2147483648 ≤ u ∨ qq < 32)
      · obtain ⟨rfl, hb⟩ := hbad2
        rw [if_neg (by simp), if_pos hb] at hO
        rw [hO] at hF
        rw [if_pos (by simp)] at hF
        refine ite_r (t := true) (by simp; omega) (fun _ => ?_) (fun h => by cases h)
        simp [hF]
        have MM := (M.tr M1).tr M2
        exact ⟨RowNew.bad, R2, MM⟩
      · refine ite_r (t := false) (by simp; omega) (fun h => by cases h) (fun _ => ?_)
        simp [e0, e1, e2, e9]
        refine ⟨u, by omega, rfl, ?_⟩
        by_cases he2 : e2' ≠ 0
        · rw [if_pos he2] at hO
          exact ⟨by rw [hO]; exact ⟨R2, M1.tr M2⟩, by rw [hO], fun h => by rw [hO] at h; exact absurd h he2⟩
        · obtain rfl : e2' = 0 := by omega
          rw [if_neg (by simp), if_neg (by omega)] at hO
          exact ⟨by rw [hO]; exact ⟨R2, M1.tr M2⟩, by rw [hO], fun _ => by rw [hO]⟩
    · rintro env2 w2 ⟨f0, f1, f2, f9, f8, u, hul, f11, ⟨R2, M2⟩, hOe, hOu⟩
      obtain ⟨d0, d1, d2, _, _⟩ := R2.sl
      clear hO
      obtain ⟨⟨x, er⟩, p2, e2'⟩ := O
      simp only at *
      subst hOe
      simp [f0, d2]
      by_cases her : er ≠ 0
      · rw [if_pos her] at hF
        refine ite_r (t := true) (by simp [her]) (fun _ => ?_) (fun h => by cases h)
        simp [hF, f0, d2]
        exact ⟨RowNew.bad, R2.mod (Mod.refl none' _).drew (fun _ _ h => h) (fun h => h), (M.tr M2).drew⟩
      obtain rfl : er = 0 := by omega
      rw [if_neg (by simp), hOu rfl] at hF
      refine ite_r (t := false) (by simp) (fun h => by cases h) (fun _ => ?_)
      simp
      refine callp (unfold2_c u hul) (by simp [f11]) ?_
      have hbl := h.lt
      have ho2 := M2.owns ho (fun k hk e => by have := hu k hk; omega)
      rw [← f8] at ho2 hu
      simp
      refine app1_r slTI ho2 (u := .int .i64 (unfI u)) (by simp) (Nat.zero_le _) (by omega) (by unfold maxLen; omega) (by simp) (by simp) (by simp) (by simp) ?_
      intro vb v' w3 w4 _ ho4 hm4 hob _
      refine ⟨by simp, ?_⟩
      have R4 := R2.mod hm4 (fun k hk hk' => by have := hu k hk'; have := hG k hk; omega) (fun hk' => by have := hu b hk'; omega)
      have M4 : Mod (fun k => k = b) w w4 := (M.tr M2).trans hm4 (fun k hk hk' => by have := hu k hk'; omega)
      rw [intsV_snoc] at ho4
      simp (disch := omega) [wI, wU, tmod_nn, tdiv_nn, env0_0, env0_1, env0_2, env0_3, env0_4, env0_5, -env0_apply, f0, f1, f2, f9]
      refine ⟨out ++ [unfI u], by simp [hol], p2, ⟨R4, M4⟩, ho4, fun k hk => ?_, hF⟩
      rcases hob k hk with h5 | h5
      · exact hu k h5
      · have := (M.tr M2).size; omega
  · rintro env w' ⟨e0, e1, e2, e9, out, q, hol, ⟨R, M⟩, ho, hu, hF⟩
    simp [e2, e9]
    refine ite_r (t := false) (by simp) (fun h => by cases h) (fun _ => ?_)
    rw [Nat.sub_self, getF] at hF
    simp [hF]
    exact ⟨⟨_, rfl, by rw [hol]; exact ho, hu⟩, R, M⟩

end Go.Proofs.Ytajkofndbeohpaa.VG
