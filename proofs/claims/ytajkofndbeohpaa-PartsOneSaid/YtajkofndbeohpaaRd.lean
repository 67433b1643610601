/-
  Rice: rows got from bits.
-/
import Derived.Test.YtajkofndbeohpaaRc
namespace Go.Proofs.Ytajkofndbeohpaa.VG
open Go
set_option linter.unusedSimpArgs false
set_option linter.unusedVariables false

/-- One residual: it and its error, where the reader is, its error. -/
def oneS (l : List Nat) (p K : Nat) : (Int × Int) × Nat × Int :=
  if (rUnary l p 0 32).2.2 ≠ 0 then ((0, (rUnary l p 0 32).2.2), (rUnary l p 0 32).2)
  else if (rUnary l p 0 32).1 < 32 then
    ((unfI ((rUnary l p 0 32).1 * 2 ^ K + (rGet l (rUnary l p 0 32).2.1 0 K).1), (rGet l (rUnary l p 0 32).2.1 0 K).2.2), (rGet l (rUnary l p 0 32).2.1 0 K).2)
  else if (rGet l (rUnary l p 0 32).2.1 0 32).2.2 ≠ 0 then ((0, (rGet l (rUnary l p 0 32).2.1 0 32).2.2), (rGet l (rUnary l p 0 32).2.1 0 32).2)
  else if 2147483648 ≤ (rGet l (rUnary l p 0 32).2.1 0 32).1 ∨ (rGet l (rUnary l p 0 32).2.1 0 32).1 / 2 ^ K < 32 then ((0, 2), (rGet l (rUnary l p 0 32).2.1 0 32).2)
  else ((unfI (rGet l (rUnary l p 0 32).2.1 0 32).1, 0), (rGet l (rUnary l p 0 32).2.1 0 32).2)
def getF (l : List Nat) (K : Nat) : Nat → Nat → List Int → (List Int × Int) × Nat × Int
  | 0, p, out => ((out, 0), p, 0)
  | n + 1, p, out => if (oneS l p K).1.2 ≠ 0 then (([], (oneS l p K).1.2), (oneS l p K).2) else getF l K n (oneS l p K).2.1 (out ++ [(oneS l p K).1.1])
def getS (l : List Nat) (p : Nat) (e k n : Int) : (List Int × Int) × Nat × Int :=
  if paramB k = false ∨ n < 0 ∨ 4194304 < n then (([], 1), p, e) else if e ≠ 0 then (([], e), p, e) else getF l k.toNat n.toNat p []

theorem getF_len (l : List Nat) (K : Nat) : ∀ n p out, (getF l K n p out).1.1.length ≤ out.length + n
  | 0, p, out => by simp [getF]
  | n + 1, p, out => by
    simp only [getF]
    split
    · simp
    · have := getF_len l K n (oneS l p K).2.1 (out ++ [(oneS l p K).1.1])
      simp at this
      omega
theorem getS_len (l : List Nat) (p : Nat) (e k n : Int) : (getS l p e k n).1.1.length ≤ 4194304 := by
  unfold getS
  split
  · simp
  rename_i h
  split
  · simp
  · have := getF_len l k.toNat n.toNat p []
    simp at this
    omega

theorem unF_bd (l : List Nat) (p m : Nat) : ∀ f z, z ≤ m → (unF l p m f z).1 ≤ m
  | 0, z, h => by simp [unF]
  | f + 1, z, h => by
    simp only [unF]
    split
    · simp
    split
    · exact h
    split
    · simp
    · exact unF_bd l p m f (z + 1) (by omega)
theorem rUnary_bd (l : List Nat) (p : Nat) (e : Int) (most : Int) : (rUnary l p e most).1 ≤ most.toNat := by
  unfold rUnary
  split
  · simp
  · exact unF_bd l p _ _ 0 (by omega)
theorem rGet_lt (l : List Nat) (p : Nat) (e : Int) (n : Nat) : (rGet l p e n).1 < 2 ^ n := by
  have := Nat.two_pow_pos n
  unfold rGet
  split
  · exact this
  split
  · exact this
  split
  · exact this
  · have := ofB_lt (rbits l p (n : Int).toNat)
    rw [rbits_length] at this
    simpa using this

theorem oneS_ok {l : List Nat} {p K : Nat} (h : (oneS l p K).1.2 = 0) : (oneS l p K).2.2 = 0 := by
  unfold oneS at *
  split
  · rename_i h1; rw [if_pos h1] at h; exact h
  rename_i h1; rw [if_neg h1] at h
  split
  · rename_i h2; rw [if_pos h2] at h; exact h
  rename_i h2; rw [if_neg h2] at h
  split
  · rename_i h3; rw [if_pos h3] at h; exact h
  rename_i h3; rw [if_neg h3] at h
  split
  · rename_i h4; rw [if_pos h4] at h; simp at h
  · simpa using h3

theorem shlq (q K : Nat) (hq : q < 32) (hK : K ≤ 25) : shl .u64 (q : Int) (K : Int) = ((q * 2 ^ K : Nat) : Int) ∧ q * 2 ^ K < 1073741824 := by
  have h2 : 2 ^ K ≤ 2 ^ 25 := Nat.pow_le_pow_right (by omega) hK
  have h3 : q * 2 ^ K ≤ 31 * 2 ^ 25 := Nat.mul_le_mul (by omega) h2
  refine ⟨?_, by omega⟩
  rw [shl_nat _ _ _ (by simp only [IntKind.bits]; omega)]
  exact wrap_nat_u64 (by omega)

set_option maxHeartbeats 1000000 in
theorem one_c {w : World} {F : Nat → Prop} {b : Nat} {l : List Nat} {p : Nat} (h : Rr w F b l p 0) (K : Nat) (hK : K ≤ 25) :
    Calls Try.prog 86 [.pointer (some ⟨b, 0, none⟩), .int .i64 K].toArray w (Ret fun r w' => r = .tuple #[.int .i64 (oneS l p K).1.1, .int .i64 (oneS l p K).1.2] ∧ RrAfter w F b l (oneS l p K).2.1 (oneS l p K).2.2 w') := by
  refine F_sound c86 (by simp [fc86]) ?_
  simp [fc86, s86]
  refine call_h (runary_c h 32) (by simp) ?_
  rintro r w1 ⟨rfl, R1, M1⟩
  have hO : oneS l p K = if (rUnary l p 0 32).2.2 ≠ 0 then ((0, (rUnary l p 0 32).2.2), (rUnary l p 0 32).2)
    else if (rUnary l p 0 32).1 < 32 then
      ((unfI ((rUnary l p 0 32).1 * 2 ^ K + (rGet l (rUnary l p 0 32).2.1 0 K).1), (rGet l (rUnary l p 0 32).2.1 0 K).2.2), (rGet l (rUnary l p 0 32).2.1 0 K).2)
    else if (rGet l (rUnary l p 0 32).2.1 0 32).2.2 ≠ 0 then ((0, (rGet l (rUnary l p 0 32).2.1 0 32).2.2), (rGet l (rUnary l p 0 32).2.1 0 32).2)
    else if 2147483648 ≤ (rGet l (rUnary l p 0 32).2.1 0 32).1 ∨ (rGet l (rUnary l p 0 32).2.1 0 32).1 / 2 ^ K < 32 then ((0, 2), (rGet l (rUnary l p 0 32).2.1 0 32).2)
    else ((unfI (rGet l (rUnary l p 0 32).2.1 0 32).1, 0), (rGet l (rUnary l p 0 32).2.1 0 32).2) := rfl
  have hzb := rUnary_bd l p 0 32
  generalize rUnary l p 0 32 = U at *
  obtain ⟨z, p1, e1⟩ := U
  simp only at *
  have wz : IntKind.u64.wrap (z : Int) = z := wU (by omega) (by omega)
  simp [wz]
  refine callp (err_c R1) (by simp) ?_
  simp
  by_cases he : e1 ≠ 0
  · rw [if_pos he] at hO
    refine ite_r (t := true) (by simp [he]) (fun _ => ?_) (fun h => by cases h)
    refine callp (err_c R1) (by simp) ?_
    simp [hO]
    exact ⟨R1, M1⟩
  obtain rfl : e1 = 0 := by omega
  rw [if_neg (by simp)] at hO
  refine ite_r (t := false) (by simp) (fun h => by cases h) (fun _ => ?_)
  simp
  by_cases h32 : z < 32
  · rw [if_pos h32] at hO
    refine ite_r (t := true) (by simp; omega) (fun _ => ?_) (fun h => by cases h)
    obtain ⟨hs1, hs2⟩ := shlq z K h32 hK
    refine call_h (get_c R1 K) (by simp) ?_
    rintro r w2 ⟨rfl, R2, M2⟩
    have hg := rGet_lt l p1 0 K
    have h2 : 2 ^ K ≤ 2 ^ 25 := Nat.pow_le_pow_right (by omega) hK
    generalize rGet l p1 0 K = g at *
    obtain ⟨low, p2, e2⟩ := g
    simp only at *
    have ws : IntKind.u64.wrap (((z * 2 ^ K : Nat) : Int) + low) = ((z * 2 ^ K + low : Nat) : Int) := by rw [wrap_u64 (by omega) (by omega)]; omega
    simp [-Int.natCast_add, -Int.natCast_mul, -Int.natCast_pow]
    refine callp (unfold_c (z * 2 ^ K + low) (by omega)) (by simp [-Int.natCast_add, -Int.natCast_mul, -Int.natCast_pow, hs1, wz, ws]) ?_
    refine callp (err_c R2) (by simp) ?_
    simp [hO]
    exact ⟨R2, M1.tr M2⟩
  · rw [if_neg h32] at hO
    refine ite_r (t := false) (by simp; omega) (fun h => by cases h) (fun _ => ?_)
    simp
    refine call_h (get_c R1 32) (by simp) ?_
    rintro r w2 ⟨rfl, R2, M2⟩
    have hg := rGet_lt l p1 0 32
    rw [show ((32 : Nat) : Int) = 32 from rfl] at hg
    generalize rGet l p1 0 32 = g at *
    obtain ⟨u, p2, e2⟩ := g
    simp only at *
    simp
    refine callp (err_c R2) (by simp) ?_
    simp
    by_cases he : e2 ≠ 0
    · rw [if_pos he] at hO
      refine ite_r (t := true) (by simp [he]) (fun _ => ?_) (fun h => by cases h)
      refine callp (err_c R2) (by simp) ?_
      simp [hO]
      exact ⟨R2, M1.tr M2⟩
    obtain rfl : e2 = 0 := by omega
    rw [if_neg (by simp)] at hO
    refine ite_r (t := false) (by simp) (fun h => by cases h) (fun _ => ?_)
    have e1s : shr .u64 (u : Int) (K : Int) = ((u / 2 ^ K : Nat) : Int) := shrK _ K (by omega) (by omega)
    generalize u / 2 ^ K = q at *
    by_cases hb : 2147483648 ≤ u ∨ q < 32
    · rw [if_pos hb] at hO
      simp [e1s]
      refine ite_r (t := true) (by simp; omega) (fun _ => ?_) (fun h => by cases h)
      simp [hO]
      exact ⟨R2, M1.tr M2⟩
    · rw [if_neg hb] at hO
      simp [e1s]
      refine ite_r (t := false) (by simp; omega) (fun h => by cases h) (fun _ => ?_)
      simp
      refine callp (unfold_c u (by omega)) (by simp) ?_
      simp [hO]
      exact ⟨R2, M1.tr M2⟩

set_option maxHeartbeats 1000000 in
theorem rget_c {w : World} {F : Nat → Prop} {b : Nat} {l : List Nat} {p : Nat} {e : Int} (h : Rr w F b l p e) (k n : Int) :
    Calls Try.prog 74 [.pointer (some ⟨b, 0, none⟩), .int .i64 k, .int .i64 n].toArray w (Ret fun r w' => RowNew w w' r (getS l p e k n).1 ∧ RrAfter w F b l (getS l p e k n).2.1 (getS l p e k n).2.2 w') := by
  refine F_sound c74 (by simp [fc74]) ?_
  simp [fc74, s74]
  refine callp (rparam_c k) (by simp) ?_
  by_cases hbad : paramB k = false ∨ n < 0 ∨ 4194304 < n
  · simp
    refine ite_r (t := true) (by rcases hbad with h | h | h <;> simp [h]) (fun _ => ?_) (fun h => by cases h)
    have : getS l p e k n = (([], 1), p, e) := by rw [getS, if_pos hbad]
    simp [this]
    exact ⟨RowNew.bad, h, Mod.refl _ _⟩
  have hk : paramB k = true := by simpa using fun h => hbad (.inl h)
  have hk' := paramB_iff.1 hk
  rw [not_or] at hbad
  simp
  refine ite_r (t := false) (by simp [hk]; omega) (fun h => by cases h) (fun _ => ?_)
  simp
  refine callp (err_c h) (by simp) ?_
  simp
  by_cases he : e ≠ 0
  · refine ite_r (t := true) (by simp [he]) (fun _ => ?_) (fun h => by cases h)
    refine callp (err_c h) (by simp) ?_
    have : getS l p e k n = (([], e), p, e) := by rw [getS, if_neg (by rw [hk]; simp; omega), if_pos he]
    simp [this]
    exact ⟨RowNew.bad, h, Mod.refl _ _⟩
  obtain rfl : e = 0 := by omega
  refine ite_r (t := false) (by simp) (fun h => by cases h) (fun _ => ?_)
  have hG : getS l p 0 k n = getF l k.toNat n.toNat p [] := by rw [getS, if_neg (by rw [hk]; simp; omega), if_neg (by simp)]
  rw [hG]
  obtain ⟨K, rfl⟩ : ∃ K : Nat, k = K := ⟨k.toNat, by omega⟩
  obtain ⟨N, rfl⟩ : ∃ N : Nat, n = N := ⟨n.toNat, by omega⟩
  simp only [Int.toNat_natCast]
  simp
  refine for_r N (fun i env' w' => env' 0 = .pointer (some ⟨b, 0, none⟩) ∧ env' 1 = .int .i64 K ∧ env' 27 = .int .i64 N ∧ env' 28 = .int .i64 i ∧
    ∃ out q, out.length = i ∧ RrAfter w F b l q 0 w' ∧ w'.ownsRow 0 3 1 (env' 8) i (intsV out) ∧ (∀ k, (env' 8).ownBlock = some k → w.heap.size ≤ k) ∧ getF l K N p [] = getF l K (N - i) q out) ?_ ?_ ?_
  · simp
    exact ⟨p, ⟨h, Mod.refl _ _⟩, by simpa using World.ownsRow_nil _ _ _ _, fun k hk => by simp [Value.ownBlock] at hk, rfl⟩
  · rintro i env w' hi ⟨e0, e1, e27, e28, out, q, hol, ⟨R, M⟩, ho, hu, hF⟩
    rw [show N - i = (N - (i + 1)) + 1 by omega, getF] at hF
    simp [e27, e28]
    refine ite_r (t := true) (by simp [hi]) (fun _ => ?_) (fun h => by cases h)
    simp [wp_blk]
    refine call_h (one_c R K (by omega)) (by simp [e0, e1]) ?_
    rintro r w2 ⟨rfl, R2, M2⟩
    have hok := oneS_ok (l := l) (p := q) (K := K)
    generalize oneS l q K = O at *
    obtain ⟨⟨x, er⟩, p2, e2⟩ := O
    simp only at *
    simp
    by_cases her : er ≠ 0
    · rw [if_pos her] at hF
      refine ite_r (t := true) (by simp [her]) (fun _ => ?_) (fun h => by cases h)
      simp [hF]
      exact ⟨RowNew.bad, R2, M.tr M2⟩
    obtain rfl : er = 0 := by omega
    have he2 := hok rfl
    subst he2
    rw [if_neg (by simp)] at hF
    refine ite_r (t := false) (by simp) (fun h => by cases h) (fun _ => ?_)
    have hbl := h.lt b h.me
    have ho2 := M2.owns ho (fun k hk e => by have := hu k hk; omega)
    simp
    refine app1_r slTI ho2 (u := .int .i64 x) (by simp) (Nat.zero_le _) (by omega) (by unfold maxLen; omega) (by simp) (by simp) (by simp) (by simp) ?_
    intro vb v' w3 w4 _ ho4 hm4 hob _
    refine ⟨by simp, ?_⟩
    have R4 := R2.mod hm4 (fun k hk hk' => by have := hu k hk'; have := h.lt k hk; omega)
    have M4 : Mod (fun k => k = b) w w4 := (M.tr M2).trans hm4 (fun k hk hk' => by have := hu k hk'; omega)
    rw [intsV_snoc] at ho4
    simp (disch := omega) [wI, wU, tmod_nn, tdiv_nn, env0_0, env0_1, env0_2, env0_3, env0_4, env0_5, -env0_apply, e0, e1, e27, e28]
    refine ⟨out ++ [x], by simp [hol], p2, ⟨R4, M4⟩, ho4, fun k hk => ?_, hF⟩
    rcases hob k hk with h5 | h5
    · exact hu k h5
    · have := (M.tr M2).size; omega
  · rintro env w' ⟨e0, e1, e27, e28, out, q, hol, ⟨R, M⟩, ho, hu, hF⟩
    simp [e27, e28]
    refine ite_r (t := false) (by simp) (fun h => by cases h) (fun _ => ?_)
    rw [Nat.sub_self, getF] at hF
    simp [hF]
    exact ⟨⟨_, rfl, by rw [hol]; exact ho, hu⟩, R, M⟩

end Go.Proofs.Ytajkofndbeohpaa.VG
