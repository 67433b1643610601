/-
  Rice: rows put as bits.
-/
import Derived.Test.YtajkofndbeohpaaRb
import Derived.Test.YtajkofndbeohpaaHo
namespace Go.Proofs.Ytajkofndbeohpaa.VG
open Go
set_option linter.unusedSimpArgs false
set_option linter.unusedVariables false

def riceB (K : Nat) (x : Int) : List Bool := if foldN x / 2 ^ K < 32 then List.replicate (foldN x / 2 ^ K) false ++ [true] ++ toB (foldN x % 2 ^ K) K else List.replicate 32 false ++ [true] ++ toB (foldN x) 32
def riceBs (K : Nat) (l : List Int) : List Bool := l.flatMap (riceB K)
theorem riceB_len {K : Nat} (hK : K ≤ 25) {x : Int} (hx : wideB x = true) : ((riceB K x).length : Int) = costI K x := by
  have hp : paramB (K : Int) = true := paramB_iff.2 (by omega)
  unfold riceB costI quoN
  rw [hp, hx, Int.toNat_natCast]
  simp only [Bool.and_self, if_true]
  by_cases h : foldN x / 2 ^ K < 32
  · rw [if_pos h, if_pos h]; simp [toB_length, -Int.natCast_ediv, -Int.natCast_pow]; omega
  · rw [if_neg h, if_neg h]; simp [toB_length]
theorem riceB_le {K : Nat} (hK : K ≤ 25) (x : Int) : (riceB K x).length ≤ 65 := by
  unfold riceB
  split <;> simp [toB_length] <;> omega
theorem riceBs_le {K : Nat} (hK : K ≤ 25) (l : List Int) : (riceBs K l).length ≤ 65 * l.length := by
  induction l with
  | nil => simp [riceBs]
  | cons x r ih => simp only [riceBs, List.flatMap_cons, List.length_append, List.length_cons] at ih ⊢; have := riceB_le hK x; omega
theorem riceBs_take (K : Nat) (l : List Int) (i : Nat) (h : i < l.length) : riceBs K (l.take (i + 1)) = riceBs K (l.take i) ++ riceB K (gi l i) := by
  rw [gi_take_snoc l i h]; simp [riceBs]
theorem riceBs_app (K : Nat) (l m : List Int) : riceBs K (l ++ m) = riceBs K l ++ riceBs K m := by simp [riceBs]

theorem low_sub (u K : Nat) (hu : u < 2147483648) (hK : K ≤ 25) : IntKind.u64.wrap ((u : Int) - shl .u64 ((u / 2 ^ K : Nat) : Int) (K : Int)) = ((u % 2 ^ K : Nat) : Int) := by
  have h1 := Nat.div_mul_le_self u (2 ^ K)
  have h2 := Nat.mod_add_div u (2 ^ K)
  rw [Nat.mul_comm] at h2
  have e : shl .u64 ((u / 2 ^ K : Nat) : Int) (K : Int) = ((u / 2 ^ K * 2 ^ K : Nat) : Int) := by
    rw [shl_nat _ _ _ (by simp only [IntKind.bits]; omega)]
    exact wrap_nat_u64 (by omega)
  rw [e]
  generalize u / 2 ^ K * 2 ^ K = q at *
  rw [wrap_u64 (by omega) (by omega)]
  omega

set_option maxHeartbeats 1000000 in
theorem rput_yes {G F : Nat → Prop} {w : World} {b : Nat} {bs : List Bool} {v : Value} {l : List Int} (h : Wr w F b bs) (hr : Rd G w v l.length (intsV l)) (hd : ∀ k, F k → ¬ G k) (hl : l.length ≤ 1000000) (hlen : bs.length ≤ 1000000000000)
    (K : Nat) (hK : K ≤ 25) (ha : allW l = true) : Calls Try.prog 48 [.pointer (some ⟨b, 0, none⟩), .int .i64 K, v].toArray w (Ret fun r w' => r = .int .i64 0 ∧ WrAfter w F b (bs ++ riceBs K l) w') := by
  refine F_sound c48 (by simp [fc48]) ?_
  obtain ⟨hS, hL⟩ := hr.sl
  have hp : paramB (K : Int) = true := paramB_iff.2 (by omega)
  simp [fc48, s48]
  refine callp (rparam_c K) (by simp) ?_
  rw [hp]
  simp (disch := first | omega | (simp [hS, hL]; done) | (simp [hS, hL]; omega)) [wI, wU, tmod_nn, tdiv_nn, env0_0, env0_1, env0_2, env0_3, env0_4, env0_5, -env0_apply, wp_ite_t, wp_ite_f, wp_ifg_y, wp_ifg_n, hS, hL]
  refine for_r l.length (fun i env' w' => env' 0 = .pointer (some ⟨b, 0, none⟩) ∧ env' 1 = .int .i64 K ∧ env' 2 = v ∧ env' 16 = v ∧ env' 17 = .int .i64 l.length ∧ env' 18 = .int .i64 i ∧ w' = w) ?_ ?_ ?_
  · simp
  · rintro i env w hi ⟨e0, e1, e2, e16, e17, e18, rfl⟩
    have hc := hr.gi i hi
    have hpp := hr.some (by omega)
    have hw := wideB_iff.2 (allW_gi ha i hi)
    simp [e17, e18]
    refine ite_r (t := true) (by simp [hi]) (fun _ => ?_) (fun h => by cases h)
    simp [wp_blk, e16, e18, hS, hL, hpp, hc, hi]
    refine callp (rwide_c (gi l i)) (by simp) ?_
    simp (disch := first | omega | (simp [hw, e0, e1, e2, e16, e17, e18]; done) | (simp [hw, e0, e1, e2, e16, e17, e18]; omega)) [wI, wU, tmod_nn, tdiv_nn, env0_0, env0_1, env0_2, env0_3, env0_4, env0_5, -env0_apply, wp_ite_t, wp_ite_f, wp_ifg_y, wp_ifg_n, hw, e0, e1, e2, e16, e17, e18]
  · rintro env w ⟨e0, e1, e2, e16, e17, e18, rfl⟩
    simp [e17, e18]
    refine ite_r (t := false) (by simp) (fun h => by cases h) (fun _ => ?_)
    simp [e2, hS, hL]
    refine for_r l.length (fun i env' w' => env' 0 = .pointer (some ⟨b, 0, none⟩) ∧ env' 1 = .int .i64 K ∧ env' 26 = v ∧ env' 27 = .int .i64 l.length ∧ env' 28 = .int .i64 i ∧ WrAfter w F b (bs ++ riceBs K (l.take i)) w') ?_ ?_ ?_
    · simp [e0, e1, e2]
      simpa [riceBs] using WrAfter.refl h
    · rintro i env w' hi ⟨e0, e1, e26, e27, e28, F1, W1, M1, N1⟩
      have hrd := hr.mod M1 (fun k hk hF => hd k hF hk)
      have hc := hrd.gi i hi
      have hpp := hrd.some (by omega)
      have hw := wideB_iff.2 (allW_gi ha i hi)
      have hfl := foldN_lt (gi l i)
      have hbl := riceBs_le hK (l.take i)
      have htl : (l.take i).length ≤ 1000000 := by rw [List.length_take]; omega
      simp [e27, e28]
      refine ite_r (t := true) (by simp [hi]) (fun _ => ?_) (fun h => by cases h)
      simp [wp_blk, e26, e28, hS, hL, hpp, hc, hi]
      refine callp (fold_c (gi l i)) (by simp) ?_
      have e1s : shr .u64 (foldN (gi l i) : Int) (K : Int) = ((foldN (gi l i) / 2 ^ K : Nat) : Int) := shrK _ K (by omega) (by omega)
      have hq : foldN (gi l i) / 2 ^ K ≤ foldN (gi l i) := Nat.div_le_self _ _
      have hlow := low_sub (foldN (gi l i)) K hfl hK
      have hrb := riceBs_take K l i hi
      have hmod := Nat.mod_lt (foldN (gi l i)) (Nat.two_pow_pos K)
      simp only [wp_chk, wp_set, updo_some, E.ev, E.ok, U.val, U.ok, B.val, B.ok, upd_apply, asI_int, isI_int, isInt_int, e1, e1s]
      simp [-Int.natCast_ediv, -Int.natCast_pow, e1]
      have hrB : riceB K (gi l i) = if foldN (gi l i) / 2 ^ K < 32 then List.replicate (foldN (gi l i) / 2 ^ K) false ++ [true] ++ toB (foldN (gi l i) % 2 ^ K) K else List.replicate 32 false ++ [true] ++ toB (foldN (gi l i)) 32 := rfl
      generalize hu : foldN (gi l i) = u at *
      generalize hqq : u / 2 ^ K = q at *
      generalize hmm : u % 2 ^ K = m at *
      by_cases h32 : q < 32
      · rw [if_pos h32] at hrB
        refine ite_r (t := true) (by simp [e1, e1s]; omega) (fun _ => ?_) (fun h => by cases h)
        have wq : IntKind.i64.wrap (q : Int) = q := wI (by omega) (by omega)
        simp
        refine call_h (unary_yes W1 q (by omega) (by simp; omega)) (by simp [e0, e1, e1s, wq]) ?_
        rintro r w2 ⟨rfl, A2⟩
        obtain ⟨F2, W2, M2, N2⟩ := WrAfter.step M1 N1 A2
        simp [e1]
        refine call_h (put_yes W2 m K (by omega) hmod (by simp; omega)) (by simp [e0, e1, e1s, hlow]) ?_
        rintro r w3 ⟨rfl, A3⟩
        have A4 := WrAfter.step M2 N2 A3
        simp (disch := omega) [wI, wU, tmod_nn, tdiv_nn, env0_0, env0_1, env0_2, env0_3, env0_4, env0_5, -env0_apply, e0, e1, e26, e27, e28]
        rw [hrb, hrB]
        simpa using A4
      · rw [if_neg h32] at hrB
        refine ite_r (t := false) (by simp [e1, e1s]; omega) (fun h => by cases h) (fun _ => ?_)
        refine call_h (unary_yes W1 32 (by omega) (by simp; omega)) (by simp [e0]) ?_
        rintro r w2 ⟨rfl, A2⟩
        obtain ⟨F2, W2, M2, N2⟩ := WrAfter.step M1 N1 A2
        refine call_h (put_yes W2 u 32 (by omega) (by omega) (by simp; omega)) (by simp [e0]) ?_
        rintro r w3 ⟨rfl, A3⟩
        have A4 := WrAfter.step M2 N2 A3
        simp (disch := omega) [wI, wU, tmod_nn, tdiv_nn, env0_0, env0_1, env0_2, env0_3, env0_4, env0_5, -env0_apply, e0, e1, e26, e27, e28]
        rw [hrb, hrB]
        simpa using A4
    · rintro env w' ⟨e0, e1, e26, e27, e28, hA⟩
      simp [e27, e28]
      refine ite_r (t := false) (by simp) (fun h => by cases h) (fun _ => ?_)
      rw [List.take_length] at hA
      simp [hA]

theorem rput_no {G : Nat → Prop} {w : World} {b : Nat} {v : Value} {l : List Int} (hr : Rd G w v l.length (intsV l)) (hl : l.length ≤ 1000000) (k : Int) (hno : paramB k = false ∨ allW l = false) :
    Calls Try.prog 48 [.pointer (some ⟨b, 0, none⟩), .int .i64 k, v].toArray w (Ret fun r w' => r = .int .i64 1 ∧ w' = w) := by
  refine F_sound c48 (by simp [fc48]) ?_
  obtain ⟨hS, hL⟩ := hr.sl
  simp [fc48, s48]
  refine callp (rparam_c k) (by simp) ?_
  cases hp : paramB k
  · simp (disch := first | omega | (simp; done) | (simp; omega)) [wI, wU, tmod_nn, tdiv_nn, env0_0, env0_1, env0_2, env0_3, env0_4, env0_5, -env0_apply, wp_ite_t, wp_ite_f, wp_ifg_y, wp_ifg_n]
  have ha : allW l = false := by rcases hno with h | h; rw [hp] at h; cases h; exact h
  simp (disch := first | omega | (simp [hS, hL]; done) | (simp [hS, hL]; omega)) [wI, wU, tmod_nn, tdiv_nn, env0_0, env0_1, env0_2, env0_3, env0_4, env0_5, -env0_apply, wp_ite_t, wp_ite_f, wp_ifg_y, wp_ifg_n, hS, hL]
  refine for_r l.length (fun i env' w' => env' 16 = v ∧ env' 17 = .int .i64 l.length ∧ env' 18 = .int .i64 i ∧ w' = w ∧ allW (l.take i) = true) ?_ ?_ ?_
  · simp [allW]
  · rintro i env w hi ⟨e16, e17, e18, rfl, hat⟩
    have hc := hr.gi i hi
    have hpp := hr.some (by omega)
    simp [e17, e18]
    refine ite_r (t := true) (by simp [hi]) (fun _ => ?_) (fun h => by cases h)
    simp [wp_blk, e16, e18, hS, hL, hpp, hc, hi]
    refine callp (rwide_c (gi l i)) (by simp) ?_
    cases hw : wideB (gi l i)
    · simp (disch := first | omega | (simp; done) | (simp; omega)) [wI, wU, tmod_nn, tdiv_nn, env0_0, env0_1, env0_2, env0_3, env0_4, env0_5, -env0_apply, wp_ite_t, wp_ite_f, wp_ifg_y, wp_ifg_n]
    · simp (disch := first | omega | (simp [e16, e17, e18]; done) | (simp [e16, e17, e18]; omega)) [wI, wU, tmod_nn, tdiv_nn, env0_0, env0_1, env0_2, env0_3, env0_4, env0_5, -env0_apply, wp_ite_t, wp_ite_f, wp_ifg_y, wp_ifg_n, e16, e17, e18]
      rw [allW_take hat hi, hw]
  · rintro env w ⟨e16, e17, e18, rfl, hat⟩
    rw [List.take_length, ha] at hat
    cases hat

set_option maxHeartbeats 1000000 in
theorem xrput_yes {G F : Nat → Prop} {w : World} {b : Nat} {bs : List Bool} {v : Value} {l : List Int} (h : Xr w F b bs) (hr : Rd G w v l.length (intsV l)) (hd : ∀ k, F k → ¬ G k) (hl : l.length ≤ 1000000) (hlen : bs.length ≤ 1000000000000)
    (K : Nat) (hK : K ≤ 25) (ha : allW l = true) : Calls Try.prog 52 [.pointer (some ⟨b, 0, none⟩), .int .i64 K, v].toArray w (Ret fun r w' => r = .int .i64 0 ∧ XrAfter w F b (bs ++ riceBs K l) w') := by
  refine F_sound c52 (by simp [fc52]) ?_
  obtain ⟨hS, hL⟩ := hr.sl
  have hp : paramB (K : Int) = true := paramB_iff.2 (by omega)
  have hlm : l.length ≤ maxLen := by unfold maxLen; omega
  simp [fc52, s52]
  refine callp (rparam2_c K) (by simp) ?_
  rw [hp]
  simp (disch := first | omega | (simp; done) | (simp; omega)) [wI, wU, tmod_nn, tdiv_nn, env0_0, env0_1, env0_2, env0_3, env0_4, env0_5, -env0_apply, wp_ite_t, wp_ite_f, wp_ifg_y, wp_ifg_n]
  refine callp (allWide2_c hr hlm) (by simp) ?_
  simp (disch := first | omega | (simp [ha]; done) | (simp [ha]; omega)) [wI, wU, tmod_nn, tdiv_nn, env0_0, env0_1, env0_2, env0_3, env0_4, env0_5, -env0_apply, wp_ite_t, wp_ite_f, wp_ifg_y, wp_ifg_n, ha]
  have wK : IntKind.u64.wrap (K : Int) = K := wU (by omega) (by omega)
  refine for_r l.length (fun i env' w' => env' 0 = .pointer (some ⟨b, 0, none⟩) ∧ env' 1 = .int .i64 K ∧ env' 2 = v ∧ env' 7 = .int .i64 i ∧ XrAfter w F b (bs ++ riceBs K (l.take i)) w') ?_ ?_ ?_
  · simp
    simpa [riceBs] using XrAfter.refl h
  · rintro i env w' hi ⟨e0, e1, e2, e7, F1, W1, M1, N1⟩
    have hrd := hr.mod M1 (fun k hk hF => hd k hF hk)
    have hc := hrd.gi i hi
    have hpp := hrd.some (by omega)
    have hfl := foldN_lt (gi l i)
    have hbl := riceBs_le hK (l.take i)
    have htl : (l.take i).length ≤ 1000000 := by rw [List.length_take]; omega
    simp [e2, e7, hS, hL]
    refine ite_r (t := true) (by simp [hi]) (fun _ => ?_) (fun h => by cases h)
    simp [wp_blk, e2, e7, hS, hL, hpp, hc, hi]
    refine callp (fold2_c (gi l i)) (by simp) ?_
    have e1s : shr .u64 (foldN (gi l i) : Int) (K : Int) = ((foldN (gi l i) / 2 ^ K : Nat) : Int) := shrK _ K (by omega) (by omega)
    have hq : foldN (gi l i) / 2 ^ K ≤ foldN (gi l i) := Nat.div_le_self _ _
    have hrb := riceBs_take K l i hi
    have hmod := Nat.mod_lt (foldN (gi l i)) (Nat.two_pow_pos K)
    have hsh : shl .u64 (1 : Int) (K : Int) = ((2 ^ K : Nat) : Int) := by
      have := shl_nat .u64 1 K (by simp only [IntKind.bits]; omega)
      rw [show ((1 : Nat) : Int) = 1 from rfl, Nat.one_mul] at this
      rw [this]
      have : 2 ^ K ≤ 2 ^ 25 := Nat.pow_le_pow_right (by omega) hK
      exact wrap_nat_u64 (by omega)
    have hp1 : IntKind.u64.wrap (((2 ^ K : Nat) : Int) - 1) = ((2 ^ K - 1 : Nat) : Int) := by
      have h1 := Nat.two_pow_pos K
      have : 2 ^ K ≤ 2 ^ 25 := Nat.pow_le_pow_right (by omega) hK
      rw [wrap_u64 (by omega) (by omega)]; omega
    have hand : bitw .and .u64 (foldN (gi l i) : Int) ((2 ^ K - 1 : Nat) : Int) = ((foldN (gi l i) % 2 ^ K : Nat) : Int) := by
      have : 2 ^ K ≤ 2 ^ 25 := Nat.pow_le_pow_right (by omega) hK
      rw [bitw_and (by simp only [IntKind.bits]; omega) (by simp only [IntKind.bits]; omega), Nat.and_two_pow_sub_one_eq_mod]
      exact wrap_nat_u64 (by omega)
    simp only [wp_chk, wp_set, updo_some, E.ev, E.ok, U.val, U.ok, B.val, B.ok, upd_apply, asI_int, isI_int, isInt_int, e1, wK, e1s]
    simp [-Int.natCast_ediv, -Int.natCast_pow, e1, wK]
    have hrB : riceB K (gi l i) = if foldN (gi l i) / 2 ^ K < 32 then List.replicate (foldN (gi l i) / 2 ^ K) false ++ [true] ++ toB (foldN (gi l i) % 2 ^ K) K else List.replicate 32 false ++ [true] ++ toB (foldN (gi l i)) 32 := rfl
    generalize hu : foldN (gi l i) = u at *
    generalize hqq : u / 2 ^ K = q at *
    generalize hmm : u % 2 ^ K = m at *
    have wq : IntKind.i64.wrap (q : Int) = q := wI (by omega) (by omega)
    by_cases h32 : q < 32
    · rw [if_pos h32] at hrB
      refine ite_r (t := true) (by simp [e1, wK, e1s, wq]; omega) (fun _ => ?_) (fun h => by cases h)
      refine call_h (xunary_yes W1 q (by omega) (by simp; omega)) (by simp [e0, e1, wK, e1s, wq]) ?_
      rintro r w2 ⟨rfl, A2⟩
      obtain ⟨F2, W2, M2, N2⟩ := XrAfter.step M1 N1 A2
      simp [e1, wK]
      refine call_h (xput_yes W2 m K (by omega) hmod (by simp; omega)) (by
        simp only [evs_cons, evs_nil, E.ev, U.val, B.val, upd_apply, updo_some, asI_int, e0, e1, wK, arith, hsh, hp1]
        simp [-Int.natCast_pow, e0, e1, wK, hsh, hp1, hand]) ?_
      rintro r w3 ⟨rfl, A3⟩
      have A4 := XrAfter.step M2 N2 A3
      simp (disch := omega) [wI, wU, tmod_nn, tdiv_nn, env0_0, env0_1, env0_2, env0_3, env0_4, env0_5, -env0_apply, e0, e1, e2, e7]
      rw [hrb, hrB]
      simpa using A4
    · rw [if_neg h32] at hrB
      refine ite_r (t := false) (by simp [e1, wK, e1s, wq]; omega) (fun h => by cases h) (fun _ => ?_)
      refine call_h (xunary_yes W1 32 (by omega) (by simp; omega)) (by simp [e0]) ?_
      rintro r w2 ⟨rfl, A2⟩
      obtain ⟨F2, W2, M2, N2⟩ := XrAfter.step M1 N1 A2
      refine call_h (xput_yes W2 u 32 (by omega) (by omega) (by simp; omega)) (by simp [e0]) ?_
      rintro r w3 ⟨rfl, A3⟩
      have A4 := XrAfter.step M2 N2 A3
      simp (disch := omega) [wI, wU, tmod_nn, tdiv_nn, env0_0, env0_1, env0_2, env0_3, env0_4, env0_5, -env0_apply, e0, e1, e2, e7]
      rw [hrb, hrB]
      simpa using A4
  · rintro env w' ⟨e0, e1, e2, e7, hA⟩
    simp [e2, e7, hS, hL]
    refine ite_r (t := false) (by simp) (fun h => by cases h) (fun _ => ?_)
    rw [List.take_length] at hA
    simp [hA]
theorem xrput_no {G : Nat → Prop} {w : World} {b : Nat} {v : Value} {l : List Int} (hr : Rd G w v l.length (intsV l)) (hl : l.length ≤ 1000000) (k : Int) (hno : paramB k = false ∨ allW l = false) :
    Calls Try.prog 52 [.pointer (some ⟨b, 0, none⟩), .int .i64 k, v].toArray w (Ret fun r w' => r = .int .i64 1 ∧ w' = w) := by
  refine F_sound c52 (by simp [fc52]) ?_
  have hlm : l.length ≤ maxLen := by unfold maxLen; omega
  simp [fc52, s52]
  refine callp (rparam2_c k) (by simp) ?_
  cases hp : paramB k
  · simp (disch := first | omega | (simp; done) | (simp; omega)) [wI, wU, tmod_nn, tdiv_nn, env0_0, env0_1, env0_2, env0_3, env0_4, env0_5, -env0_apply, wp_ite_t, wp_ite_f, wp_ifg_y, wp_ifg_n]
  have ha : allW l = false := by rcases hno with h | h; rw [hp] at h; cases h; exact h
  simp (disch := first | omega | (simp; done) | (simp; omega)) [wI, wU, tmod_nn, tdiv_nn, env0_0, env0_1, env0_2, env0_3, env0_4, env0_5, -env0_apply, wp_ite_t, wp_ite_f, wp_ifg_y, wp_ifg_n]
  refine callp (allWide2_c hr hlm) (by simp) ?_
  simp (disch := first | omega | (simp [ha]; done) | (simp [ha]; omega)) [wI, wU, tmod_nn, tdiv_nn, env0_0, env0_1, env0_2, env0_3, env0_4, env0_5, -env0_apply, wp_ite_t, wp_ite_f, wp_ifg_y, wp_ifg_n, ha]

end Go.Proofs.Ytajkofndbeohpaa.VG
