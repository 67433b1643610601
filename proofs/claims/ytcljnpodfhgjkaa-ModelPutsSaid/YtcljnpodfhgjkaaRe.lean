/-
  Rice: rows put as bits (and what goes with it: parts Rc Rd Re).
-/
import Derived.Test.YtcljnpodfhgjkaaRb
import Derived.Test.YtcljnpodfhgjkaaHo

/-! ## Rice: rows put as bits. -/
namespace Go.Proofs.Ytcljnpodfhgjkaa.VG
open Go
set_option linter.unusedSimpArgs false
set_option linter.unusedVariables false
set_option maxRecDepth 20000

def riceB (K : Nat) (x : Int) : List Bool := if foldN x / 2 ^ K < 32 then List.replicate (foldN x / 2 ^ K) false ++ [true] ++ toB (foldN x % 2 ^ K) K else List.replicate 32 false ++ [true] ++ toB (foldN x) 32
def riceBs (K : Nat) (l : List Int) : List Bool := l.flatMap (riceB K)
theorem riceB_len {K : Nat} (hK : K ≤ 25) {x : Int} (hx : wideB x = true) : ((riceB K x).length : Int) = costI K x := by
  have hp : paramB (K : Int) = true := paramB_iff.2 (by omega)
  unfold riceB costI quoN
  rw [hp, hx, Int.toNat_natCast]
  simp only [Bool.and_self, if_true]
  by_cases h : foldN x / 2 ^ K < 32
  · rw [if_pos h, if_pos h]; simp [toB_length, -Int.natCast_ediv, -Int.natCast_pow]; omega
  · rw [if_neg h, if_neg h]; simp [toB_length]
theorem riceB_le {K : Nat} (hK : K ≤ 25) (x : Int) : (riceB K x).length ≤ 65 := by
  unfold riceB
  split <;> simp [toB_length] <;> omega
theorem riceBs_le {K : Nat} (hK : K ≤ 25) (l : List Int) : (riceBs K l).length ≤ 65 * l.length := by
  induction l with
  | nil => simp [riceBs]
  | cons x r ih => simp only [riceBs, List.flatMap_cons, List.length_append, List.length_cons] at ih ⊢; have := riceB_le hK x; omega
theorem riceBs_take (K : Nat) (l : List Int) (i : Nat) (h : i < l.length) : riceBs K (l.take (i + 1)) = riceBs K (l.take i) ++ riceB K (gi l i) := by
  rw [gi_take_snoc l i h]; simp [riceBs]
theorem riceBs_app (K : Nat) (l m : List Int) : riceBs K (l ++ m) = riceBs K l ++ riceBs K m := by simp [riceBs]

theorem low_sub (u K : Nat) (hu : u < 2147483648) (hK : K ≤ 25) : IntKind.u64.wrap ((u : Int) - shl .u64 ((u / 2 ^ K : Nat) : Int) (K : Int)) = ((u % 2 ^ K : Nat) : Int) := by
  have h1 := Nat.div_mul_le_self u (2 ^ K)
  have h2 := Nat.mod_add_div u (2 ^ K)
  rw [Nat.mul_comm] at h2
  have e : shl .u64 ((u / 2 ^ K : Nat) : Int) (K : Int) = ((u / 2 ^ K * 2 ^ K : Nat) : Int) := by
    rw [shl_nat _ _ _ (by simp only [IntKind.bits]; omega)]
    exact wrap_nat_u64 (by omega)
  rw [e]
  generalize u / 2 ^ K * 2 ^ K = q at *
  rw [wrap_u64 (by omega) (by omega)]
  omega

set_option maxHeartbeats 1000000 in
theorem rput_yes {G F : Nat → Prop} {w : World} {b : Nat} {bs : List Bool} {v : Value} {l : List Int} (h : Wr w F b bs) (hr : Rd G w v l.length (intsV l)) (hd : ∀ k, F k → ¬ G k) (hl : l.length ≤ 1000000) (hlen : bs.length ≤ 1000000000000)
    (K : Nat) (hK : K ≤ 25) (ha : allW l = true) : Calls Try.prog 52 [.pointer (some ⟨b, 0, none⟩), .int .i64 K, v].toArray w (Ret fun r w' => r = .int .i64 0 ∧ WrAfter w F b (bs ++ riceBs K l) w') := by
  refine F_sound c52 (by simp [fc52]) ?_
  obtain ⟨hS, hL⟩ := hr.sl
  have hp : paramB (K : Int) = true := paramB_iff.2 (by omega)
  simp [fc52, s52]
  refine callp (rparam_c K) (by simp) ?_
  rw [hp]
  simp (disch := first | omega | (simp [hS, hL]; done) | (simp [hS, hL]; omega)) [wI, wU, tmod_nn, tdiv_nn, env0_0, env0_1, env0_2, env0_3, env0_4, env0_5, -env0_apply, wp_ite_t, wp_ite_f, wp_ifg_y, wp_ifg_n, hS, hL]
  refine for_r l.length (fun i env' w' => env' 0 = .pointer (some ⟨b, 0, none⟩) ∧ env' 1 = .int .i64 K ∧ env' 2 = v ∧ env' 16 = v ∧ env' 17 = .int .i64 l.length ∧ env' 18 = .int .i64 i ∧ w' = w) ?_ ?_ ?_
  · simp
  · rintro i env w hi ⟨e0, e1, e2, e16, e17, e18, rfl⟩
    have hc := hr.gi i hi
    have hpp := hr.some (by omega)
    have hw := wideB_iff.2 (allW_gi ha i hi)
    simp [e17, e18]
    refine ite_r (t := true) (by simp [hi]) (fun _ => ?_) (fun h => by cases h)
    simp [wp_blk, e16, e18, hS, hL, hpp, hc, hi]
    refine callp (rwide_c (gi l i)) (by simp) ?_
    simp (disch := first | omega | (simp [hw, e0, e1, e2, e16, e17, e18]; done) | (simp [hw, e0, e1, e2, e16, e17, e18]; omega)) [wI, wU, tmod_nn, tdiv_nn, env0_0, env0_1, env0_2, env0_3, env0_4, env0_5, -env0_apply, wp_ite_t, wp_ite_f, wp_ifg_y, wp_ifg_n, hw, e0, e1, e2, e16, e17, e18]
  · rintro env w ⟨e0, e1, e2, e16, e17, e18, rfl⟩
    simp [e17, e18]
    refine ite_r (t := false) (by simp) (fun h => by cases h) (fun _ => ?_)
    simp [e2, hS, hL]
    refine for_r l.length (fun i env' w' => env' 0 = .pointer (some ⟨b, 0, none⟩) ∧ env' 1 = .int .i64 K ∧ env' 26 = v ∧ env' 27 = .int .i64 l.length ∧ env' 28 = .int .i64 i ∧ WrAfter w F b (bs ++ riceBs K (l.take i)) w') ?_ ?_ ?_
    · simp [e0, e1, e2]
      simpa [riceBs] using WrAfter.refl h
    · rintro i env w' hi ⟨e0, e1, e26, e27, e28, F1, W1, M1, N1⟩
      have hrd := hr.mod M1 (fun k hk hF => hd k hF hk)
      have hc := hrd.gi i hi
      have hpp := hrd.some (by omega)
      have hw := wideB_iff.2 (allW_gi ha i hi)
      have hfl := foldN_lt (gi l i)
      have hbl := riceBs_le hK (l.take i)
      have htl : (l.take i).length ≤ 1000000 := by rw [List.length_take]; omega
      simp [e27, e28]
      refine ite_r (t := true) (by simp [hi]) (fun _ => ?_) (fun h => by cases h)
      simp [wp_blk, e26, e28, hS, hL, hpp, hc, hi]
      refine callp (fold_c (gi l i)) (by simp) ?_
      have e1s : shr .u64 (foldN (gi l i) : Int) (K : Int) = ((foldN (gi l i) / 2 ^ K : Nat) : Int) := shrK _ K (by omega) (by omega)
      have hq : foldN (gi l i) / 2 ^ K ≤ foldN (gi l i) := Nat.div_le_self _ _
      have hlow := low_sub (foldN (gi l i)) K hfl hK
      have hrb := riceBs_take K l i hi
      have hmod := Nat.mod_lt (foldN (gi l i)) (Nat.two_pow_pos K)
      simp only [wp_chk, wp_set, updo_some, E.ev, E.ok, U.val, U.ok, B.val, B.ok, upd_apply, asI_int, isI_int, isInt_int, e1, e1s]
      simp [-Int.natCast_ediv, -Int.natCast_pow, e1]
      have hrB : riceB K (gi l i) = if foldN (gi l i) / 2 ^ K < 32 then List.replicate (foldN (gi l i) / 2 ^ K) false ++ [true] ++ toB (foldN (gi l i) % 2 ^ K) K else List.replicate 32 false ++ [true] ++ toB (foldN (gi l i)) 32 := rfl
      generalize hu : foldN (gi l i) = u at *
      generalize hqq : u / 2 ^ K = q at *
      generalize hmm : u % 2 ^ K = m at *
      by_cases h32 : q < 32
      · rw [if_pos h32] at hrB
        refine ite_r (t := true) (by simp [e1, e1s]; omega) (fun _ => ?_) (fun h => by cases h)
        have wq : IntKind.i64.wrap (q : Int) = q := wI (by omega) (by omega)
        simp
        refine call_h (unary_yes W1 q (by omega) (by simp; omega)) (by simp [e0, e1, e1s, wq]) ?_
        rintro r w2 ⟨rfl, A2⟩
        obtain ⟨F2, W2, M2, N2⟩ := WrAfter.step M1 N1 A2
        simp [e1]
        refine call_h (put_yes W2 m K (by omega) hmod (by simp; omega)) (by simp [e0, e1, e1s, hlow]) ?_
        rintro r w3 ⟨rfl, A3⟩
        have A4 := WrAfter.step M2 N2 A3
        simp (disch := omega) [wI, wU, tmod_nn, tdiv_nn, env0_0, env0_1, env0_2, env0_3, env0_4, env0_5, -env0_apply, e0, e1, e26, e27, e28]
        rw [hrb, hrB]
        simpa using A4
      · rw [if_neg h32] at hrB
        refine ite_r (t := false) (by simp [e1, e1s]; omega) (fun h => by cases h) (fun _ => ?_)
        refine call_h (unary_yes W1 32 (by omega) (by simp; omega)) (by simp [e0]) ?_
        rintro r w2 ⟨rfl, A2⟩
        obtain ⟨F2, W2, M2, N2⟩ := WrAfter.step M1 N1 A2
        refine call_h (put_yes W2 u 32 (by omega) (by omega) (by simp; omega)) (by simp [e0]) ?_
        rintro r w3 ⟨rfl, A3⟩
        have A4 := WrAfter.step M2 N2 A3
        simp (disch := omega) [wI, wU, tmod_nn, tdiv_nn, env0_0, env0_1, env0_2, env0_3, env0_4, env0_5, -env0_apply, e0, e1, e26, e27, e28]
        rw [hrb, hrB]
        simpa using A4
    · rintro env w' ⟨e0, e1, e26, e27, e28, hA⟩
      simp [e27, e28]
      refine ite_r (t := false) (by simp) (fun h => by cases h) (fun _ => ?_)
      rw [List.take_length] at hA
      simp [hA]

theorem rput_no {G : Nat → Prop} {w : World} {b : Nat} {v : Value} {l : List Int} (hr : Rd G w v l.length (intsV l)) (hl : l.length ≤ 1000000) (k : Int) (hno : paramB k = false ∨ allW l = false) :
    Calls Try.prog 52 [.pointer (some ⟨b, 0, none⟩), .int .i64 k, v].toArray w (Ret fun r w' => r = .int .i64 1 ∧ w' = w) := by
  refine F_sound c52 (by simp [fc52]) ?_
  obtain ⟨hS, hL⟩ := hr.sl
  simp [fc52, s52]
  refine callp (rparam_c k) (by simp) ?_
  cases hp : paramB k
  · simp (disch := first | omega | (simp; done) | (simp; omega)) [wI, wU, tmod_nn, tdiv_nn, env0_0, env0_1, env0_2, env0_3, env0_4, env0_5, -env0_apply, wp_ite_t, wp_ite_f, wp_ifg_y, wp_ifg_n]
  have ha : allW l = false := by rcases hno with h | h; rw [hp] at h; cases h; exact h
  simp (disch := first | omega | (simp [hS, hL]; done) | (simp [hS, hL]; omega)) [wI, wU, tmod_nn, tdiv_nn, env0_0, env0_1, env0_2, env0_3, env0_4, env0_5, -env0_apply, wp_ite_t, wp_ite_f, wp_ifg_y, wp_ifg_n, hS, hL]
  refine for_r l.length (fun i env' w' => env' 16 = v ∧ env' 17 = .int .i64 l.length ∧ env' 18 = .int .i64 i ∧ w' = w ∧ allW (l.take i) = true) ?_ ?_ ?_
  · simp [allW]
  · rintro i env w hi ⟨e16, e17, e18, rfl, hat⟩
    have hc := hr.gi i hi
    have hpp := hr.some (by omega)
    simp [e17, e18]
    refine ite_r (t := true) (by simp [hi]) (fun _ => ?_) (fun h => by cases h)
    simp [wp_blk, e16, e18, hS, hL, hpp, hc, hi]
    refine callp (rwide_c (gi l i)) (by simp) ?_
    cases hw : wideB (gi l i)
    · simp (disch := first | omega | (simp; done) | (simp; omega)) [wI, wU, tmod_nn, tdiv_nn, env0_0, env0_1, env0_2, env0_3, env0_4, env0_5, -env0_apply, wp_ite_t, wp_ite_f, wp_ifg_y, wp_ifg_n]
    · simp (disch := first | omega | (simp [e16, e17, e18]; done) | (simp [e16, e17, e18]; omega)) [wI, wU, tmod_nn, tdiv_nn, env0_0, env0_1, env0_2, env0_3, env0_4, env0_5, -env0_apply, wp_ite_t, wp_ite_f, wp_ifg_y, wp_ifg_n, e16, e17, e18]
      rw [allW_take hat hi, hw]
  · rintro env w ⟨e16, e17, e18, rfl, hat⟩
    rw [List.take_length, ha] at hat
    cases hat

set_option maxHeartbeats 1000000 in
theorem xrput_yes {G F : Nat → Prop} {w : World} {b : Nat} {bs : List Bool} {v : Value} {l : List Int} (h : Xr w F b bs) (hr : Rd G w v l.length (intsV l)) (hd : ∀ k, F k → ¬ G k) (hl : l.length ≤ 1000000) (hlen : bs.length ≤ 1000000000000)
    (K : Nat) (hK : K ≤ 25) (ha : allW l = true) : Calls Try.prog 76 [.pointer (some ⟨b, 0, none⟩), .int .i64 K, v].toArray w (Ret fun r w' => r = .int .i64 0 ∧ XrAfter w F b (bs ++ riceBs K l) w') := by
  refine F_sound c76 (by simp [fc76]) ?_
  obtain ⟨hS, hL⟩ := hr.sl
  have hp : paramB (K : Int) = true := paramB_iff.2 (by omega)
  have hlm : l.length ≤ maxLen := by unfold maxLen; omega
  simp [fc76, s76]
  refine callp (rparam2_c K) (by simp) ?_
  rw [hp]
  simp (disch := first | omega | (simp; done) | (simp; omega)) [wI, wU, tmod_nn, tdiv_nn, env0_0, env0_1, env0_2, env0_3, env0_4, env0_5, -env0_apply, wp_ite_t, wp_ite_f, wp_ifg_y, wp_ifg_n]
  refine callp (allWide2_c hr hlm) (by simp) ?_
  simp (disch := first | omega | (simp [ha]; done) | (simp [ha]; omega)) [wI, wU, tmod_nn, tdiv_nn, env0_0, env0_1, env0_2, env0_3, env0_4, env0_5, -env0_apply, wp_ite_t, wp_ite_f, wp_ifg_y, wp_ifg_n, ha]
  have wK : IntKind.u64.wrap (K : Int) = K := wU (by omega) (by omega)
  refine for_r l.length (fun i env' w' => env' 0 = .pointer (some ⟨b, 0, none⟩) ∧ env' 1 = .int .i64 K ∧ env' 2 = v ∧ env' 7 = .int .i64 i ∧ XrAfter w F b (bs ++ riceBs K (l.take i)) w') ?_ ?_ ?_
  · simp
    simpa [riceBs] using XrAfter.refl h
  · rintro i env w' hi ⟨e0, e1, e2, e7, F1, W1, M1, N1⟩
    have hrd := hr.mod M1 (fun k hk hF => hd k hF hk)
    have hc := hrd.gi i hi
    have hpp := hrd.some (by omega)
    have hfl := foldN_lt (gi l i)
    have hbl := riceBs_le hK (l.take i)
    have htl : (l.take i).length ≤ 1000000 := by rw [List.length_take]; omega
    simp [e2, e7, hS, hL]
    refine ite_r (t := true) (by simp [hi]) (fun _ => ?_) (fun h => by cases h)
    simp [wp_blk, e2, e7, hS, hL, hpp, hc, hi]
    refine callp (fold2_c (gi l i)) (by simp) ?_
    have e1s : shr .u64 (foldN (gi l i) : Int) (K : Int) = ((foldN (gi l i) / 2 ^ K : Nat) : Int) := shrK _ K (by omega) (by omega)
    have hq : foldN (gi l i) / 2 ^ K ≤ foldN (gi l i) := Nat.div_le_self _ _
    have hrb := riceBs_take K l i hi
    have hmod := Nat.mod_lt (foldN (gi l i)) (Nat.two_pow_pos K)
    have hsh : shl .u64 (1 : Int) (K : Int) = ((2 ^ K : Nat) : Int) := by
      have := shl_nat .u64 1 K (by simp only [IntKind.bits]; omega)
      rw [show ((1 : Nat) : Int) = 1 from rfl, Nat.one_mul] at this
      rw [this]
      have : 2 ^ K ≤ 2 ^ 25 := Nat.pow_le_pow_right (by omega) hK
      exact wrap_nat_u64 (by omega)
    have hp1 : IntKind.u64.wrap (((2 ^ K : Nat) : Int) - 1) = ((2 ^ K - 1 : Nat) : Int) := by
      have h1 := Nat.two_pow_pos K
      have : 2 ^ K ≤ 2 ^ 25 := Nat.pow_le_pow_right (by omega) hK
      rw [wrap_u64 (by omega) (by omega)]; omega
    have hand : bitw .and .u64 (foldN (gi l i) : Int) ((2 ^ K - 1 : Nat) : Int) = ((foldN (gi l i) % 2 ^ K : Nat) : Int) := by
      have : 2 ^ K ≤ 2 ^ 25 := Nat.pow_le_pow_right (by omega) hK
      rw [bitw_and (by simp only [IntKind.bits]; omega) (by simp only [IntKind.bits]; omega), Nat.and_two_pow_sub_one_eq_mod]
      exact wrap_nat_u64 (by omega)
    simp only [wp_chk, wp_set, updo_some, E.ev, E.ok, U.val, U.ok, B.val, B.ok, upd_apply, asI_int, isI_int, isInt_int, e1, wK, e1s]
    simp [-Int.natCast_ediv, -Int.natCast_pow, e1, wK]
    have hrB : riceB K (gi l i) = if foldN (gi l i) / 2 ^ K < 32 then List.replicate (foldN (gi l i) / 2 ^ K) false ++ [true] ++ toB (foldN (gi l i) % 2 ^ K) K else List.replicate 32 false ++ [true] ++ toB (foldN (gi l i)) 32 := rfl
    generalize hu : foldN (gi l i) = u at *
    generalize hqq : u / 2 ^ K = q at *
    generalize hmm : u % 2 ^ K = m at *
    have wq : IntKind.i64.wrap (q : Int) = q := wI (by omega) (by omega)
    by_cases h32 : q < 32
    · rw [if_pos h32] at hrB
      refine ite_r (t := true) (by simp [e1, wK, e1s, wq]; omega) (fun _ => ?_) (fun h => by cases h)
      refine call_h (xunary_yes W1 q (by omega) (by simp; omega)) (by simp [e0, e1, wK, e1s, wq]) ?_
      rintro r w2 ⟨rfl, A2⟩
      obtain ⟨F2, W2, M2, N2⟩ := XrAfter.step M1 N1 A2
      simp [e1, wK]
      refine call_h (xput_yes W2 m K (by omega) hmod (by simp; omega)) (by
        simp only [evs_cons, evs_nil, E.ev, U.val, B.val, upd_apply, updo_some, asI_int, e0, e1, wK, arith, hsh, hp1]
        simp [-Int.natCast_pow, e0, e1, wK, hsh, hp1, hand]) ?_
      rintro r w3 ⟨rfl, A3⟩
      have A4 := XrAfter.step M2 N2 A3
      simp (disch := omega) [wI, wU, tmod_nn, tdiv_nn, env0_0, env0_1, env0_2, env0_3, env0_4, env0_5, -env0_apply, e0, e1, e2, e7]
      rw [hrb, hrB]
      simpa using A4
    · rw [if_neg h32] at hrB
      refine ite_r (t := false) (by simp [e1, wK, e1s, wq]; omega) (fun h => by cases h) (fun _ => ?_)
      refine call_h (xunary_yes W1 32 (by omega) (by simp; omega)) (by simp [e0]) ?_
      rintro r w2 ⟨rfl, A2⟩
      obtain ⟨F2, W2, M2, N2⟩ := XrAfter.step M1 N1 A2
      refine call_h (xput_yes W2 u 32 (by omega) (by omega) (by simp; omega)) (by simp [e0]) ?_
      rintro r w3 ⟨rfl, A3⟩
      have A4 := XrAfter.step M2 N2 A3
      simp (disch := omega) [wI, wU, tmod_nn, tdiv_nn, env0_0, env0_1, env0_2, env0_3, env0_4, env0_5, -env0_apply, e0, e1, e2, e7]
      rw [hrb, hrB]
      simpa using A4
  · rintro env w' ⟨e0, e1, e2, e7, hA⟩
    simp [e2, e7, hS, hL]
    refine ite_r (t := false) (by simp) (fun h => by cases h) (fun _ => ?_)
    rw [List.take_length] at hA
    simp [hA]
theorem xrput_no {G : Nat → Prop} {w : World} {b : Nat} {v : Value} {l : List Int} (hr : Rd G w v l.length (intsV l)) (hl : l.length ≤ 1000000) (k : Int) (hno : paramB k = false ∨ allW l = false) :
    Calls Try.prog 76 [.pointer (some ⟨b, 0, none⟩), .int .i64 k, v].toArray w (Ret fun r w' => r = .int .i64 1 ∧ w' = w) := by
  refine F_sound c76 (by simp [fc76]) ?_
  have hlm : l.length ≤ maxLen := by unfold maxLen; omega
  simp [fc76, s76]
  refine callp (rparam2_c k) (by simp) ?_
  cases hp : paramB k
  · simp (disch := first | omega | (simp; done) | (simp; omega)) [wI, wU, tmod_nn, tdiv_nn, env0_0, env0_1, env0_2, env0_3, env0_4, env0_5, -env0_apply, wp_ite_t, wp_ite_f, wp_ifg_y, wp_ifg_n]
  have ha : allW l = false := by rcases hno with h | h; rw [hp] at h; cases h; exact h
  simp (disch := first | omega | (simp; done) | (simp; omega)) [wI, wU, tmod_nn, tdiv_nn, env0_0, env0_1, env0_2, env0_3, env0_4, env0_5, -env0_apply, wp_ite_t, wp_ite_f, wp_ifg_y, wp_ifg_n]
  refine callp (allWide2_c hr hlm) (by simp) ?_
  simp (disch := first | omega | (simp [ha]; done) | (simp [ha]; omega)) [wI, wU, tmod_nn, tdiv_nn, env0_0, env0_1, env0_2, env0_3, env0_4, env0_5, -env0_apply, wp_ite_t, wp_ite_f, wp_ifg_y, wp_ifg_n, ha]

end Go.Proofs.Ytcljnpodfhgjkaa.VG

/-! ## Rice: rows got from bits. -/
namespace Go.Proofs.Ytcljnpodfhgjkaa.VG
open Go
set_option linter.unusedSimpArgs false
set_option linter.unusedVariables false
set_option maxRecDepth 20000

/-- One residual: it and its error, where the reader is, its error. -/
def oneS (l : List Nat) (p K : Nat) : (Int × Int) × Nat × Int :=
  if (rUnary l p 0 32).2.2 ≠ 0 then ((0, (rUnary l p 0 32).2.2), (rUnary l p 0 32).2)
  else if (rUnary l p 0 32).1 < 32 then
    ((unfI ((rUnary l p 0 32).1 * 2 ^ K + (rGet l (rUnary l p 0 32).2.1 0 K).1), (rGet l (rUnary l p 0 32).2.1 0 K).2.2), (rGet l (rUnary l p 0 32).2.1 0 K).2)
  else if (rGet l (rUnary l p 0 32).2.1 0 32).2.2 ≠ 0 then ((0, (rGet l (rUnary l p 0 32).2.1 0 32).2.2), (rGet l (rUnary l p 0 32).2.1 0 32).2)
  else if 2147483648 ≤ (rGet l (rUnary l p 0 32).2.1 0 32).1 ∨ (rGet l (rUnary l p 0 32).2.1 0 32).1 / 2 ^ K < 32 then ((0, 2), (rGet l (rUnary l p 0 32).2.1 0 32).2)
  else ((unfI (rGet l (rUnary l p 0 32).2.1 0 32).1, 0), (rGet l (rUnary l p 0 32).2.1 0 32).2)
def getF (l : List Nat) (K : Nat) : Nat → Nat → List Int → (List Int × Int) × Nat × Int
  | 0, p, out => ((out, 0), p, 0)
  | n + 1, p, out => if (oneS l p K).1.2 ≠ 0 then (([], (oneS l p K).1.2), (oneS l p K).2) else getF l K n (oneS l p K).2.1 (out ++ [(oneS l p K).1.1])
def getS (l : List Nat) (p : Nat) (e k n : Int) : (List Int × Int) × Nat × Int :=
  if paramB k = false ∨ n < 0 ∨ 4194304 < n then (([], 1), p, e) else if e ≠ 0 then (([], e), p, e) else getF l k.toNat n.toNat p []

theorem getF_len (l : List Nat) (K : Nat) : ∀ n p out, (getF l K n p out).1.1.length ≤ out.length + n
  | 0, p, out => by simp [getF]
  | n + 1, p, out => by
    simp only [getF]
    split
    · simp
    · have := getF_len l K n (oneS l p K).2.1 (out ++ [(oneS l p K).1.1])
      simp at this
      omega
theorem getS_len (l : List Nat) (p : Nat) (e k n : Int) : (getS l p e k n).1.1.length ≤ 4194304 := by
  unfold getS
  split
  · simp
  rename_i h
  split
  · simp
  · have := getF_len l k.toNat n.toNat p []
    simp at this
    omega

theorem unF_bd (l : List Nat) (p m : Nat) : ∀ f z, z ≤ m → (unF l p m f z).1 ≤ m
  | 0, z, h => by simp [unF]
  | f + 1, z, h => by
    simp only [unF]
    split
    · simp
    split
    · exact h
    split
    · simp
    · exact unF_bd l p m f (z + 1) (by omega)
theorem rUnary_bd (l : List Nat) (p : Nat) (e : Int) (most : Int) : (rUnary l p e most).1 ≤ most.toNat := by
  unfold rUnary
  split
  · simp
  · exact unF_bd l p _ _ 0 (by omega)
theorem rGet_lt (l : List Nat) (p : Nat) (e : Int) (n : Nat) : (rGet l p e n).1 < 2 ^ n := by
  have := Nat.two_pow_pos n
  unfold rGet
  split
  · exact this
  split
  · exact this
  split
  · exact this
  · have := ofB_lt (rbits l p (n : Int).toNat)
    rw [rbits_length] at this
    simpa using this

theorem oneS_ok {l : List Nat} {p K : Nat} (h : (oneS l p K).1.2 = 0) : (oneS l p K).2.2 = 0 := by
  unfold oneS at *
  split
  · rename_i h1; rw [if_pos h1] at h; exact h
  rename_i h1; rw [if_neg h1] at h
  split
  · rename_i h2; rw [if_pos h2] at h; exact h
  rename_i h2; rw [if_neg h2] at h
  split
  · rename_i h3; rw [if_pos h3] at h; exact h
  rename_i h3; rw [if_neg h3] at h
  split
  · rename_i h4; rw [if_pos h4] at h; simp at h
  · simpa using h3

theorem shlq (q K : Nat) (hq : q < 32) (hK : K ≤ 25) : shl .u64 (q : Int) (K : Int) = ((q * 2 ^ K : Nat) : Int) ∧ q * 2 ^ K < 1073741824 := by
  have h2 : 2 ^ K ≤ 2 ^ 25 := Nat.pow_le_pow_right (by omega) hK
  have h3 : q * 2 ^ K ≤ 31 * 2 ^ 25 := Nat.mul_le_mul (by omega) h2
  refine ⟨?_, by omega⟩
  rw [shl_nat _ _ _ (by simp only [IntKind.bits]; omega)]
  exact wrap_nat_u64 (by omega)

set_option maxHeartbeats 1000000 in
theorem one_c {w : World} {F : Nat → Prop} {b : Nat} {l : List Nat} {p : Nat} (h : Rr w F b l p 0) (K : Nat) (hK : K ≤ 25) :
    Calls Try.prog 73 [.pointer (some ⟨b, 0, none⟩), .int .i64 K].toArray w (Ret fun r w' => r = .tuple #[.int .i64 (oneS l p K).1.1, .int .i64 (oneS l p K).1.2] ∧ RrAfter w F b l (oneS l p K).2.1 (oneS l p K).2.2 w') := by
  refine F_sound c73 (by simp [fc73]) ?_
  simp [fc73, s73]
  refine call_h (runary_c h 32) (by simp) ?_
  rintro r w1 ⟨rfl, R1, M1⟩
  have hO : oneS l p K = if (rUnary l p 0 32).2.2 ≠ 0 then ((0, (rUnary l p 0 32).2.2), (rUnary l p 0 32).2)
    else if (rUnary l p 0 32).1 < 32 then
      ((unfI ((rUnary l p 0 32).1 * 2 ^ K + (rGet l (rUnary l p 0 32).2.1 0 K).1), (rGet l (rUnary l p 0 32).2.1 0 K).2.2), (rGet l (rUnary l p 0 32).2.1 0 K).2)
    else if (rGet l (rUnary l p 0 32).2.1 0 32).2.2 ≠ 0 then ((0, (rGet l (rUnary l p 0 32).2.1 0 32).2.2), (rGet l (rUnary l p 0 32).2.1 0 32).2)
    else if 2147483648 ≤ (rGet l (rUnary l p 0 32).2.1 0 32).1 ∨ (rGet l (rUnary l p 0 32).2.1 0 32).1 / 2 ^ K < 32 then ((0, 2), (rGet l (rUnary l p 0 32).2.1 0 32).2)
    else ((unfI (rGet l (rUnary l p 0 32).2.1 0 32).1, 0), (rGet l (rUnary l p 0 32).2.1 0 32).2) := rfl
  have hzb := rUnary_bd l p 0 32
  generalize rUnary l p 0 32 = U at *
  obtain ⟨z, p1, e1⟩ := U
  simp only at *
  have wz : IntKind.u64.wrap (z : Int) = z := wU (by omega) (by omega)
  simp [wz]
  refine callp (err_c R1) (by simp) ?_
  simp
  by_cases he : e1 ≠ 0
  · rw [if_pos he] at hO
    refine ite_r (t := true) (by simp [he]) (fun _ => ?_) (fun h => by cases h)
    refine callp (err_c R1) (by simp) ?_
    simp [hO]
    exact ⟨R1, M1⟩
  obtain rfl : e1 = 0 := by omega
  rw [if_neg (by simp)] at hO
  refine ite_r (t := false) (by simp) (fun h => by cases h) (fun _ => ?_)
  simp
  by_cases h32 : z < 32
  · rw [if_pos h32] at hO
    refine ite_r (t := true) (by simp; omega) (fun _ => ?_) (fun h => by cases h)
    obtain ⟨hs1, hs2⟩ := shlq z K h32 hK
    refine call_h (get_c R1 K) (by simp) ?_
    rintro r w2 ⟨rfl, R2, M2⟩
    have hg := rGet_lt l p1 0 K
    have h2 : 2 ^ K ≤ 2 ^ 25 := Nat.pow_le_pow_right (by omega) hK
    generalize rGet l p1 0 K = g at *
    obtain ⟨low, p2, e2⟩ := g
    simp only at *
    have ws : IntKind.u64.wrap (((z * 2 ^ K : Nat) : Int) + low) = ((z * 2 ^ K + low : Nat) : Int) := by rw [wrap_u64 (by omega) (by omega)]; omega
    simp [-Int.natCast_add, -Int.natCast_mul, -Int.natCast_pow]
    refine callp (unfold_c (z * 2 ^ K + low) (by omega)) (by simp [-Int.natCast_add, -Int.natCast_mul, -Int.natCast_pow, hs1, wz, ws]) ?_
    refine callp (err_c R2) (by simp) ?_
    simp [hO]
    exact ⟨R2, M1.tr M2⟩
  · rw [if_neg h32] at hO
    refine ite_r (t := false) (by simp; omega) (fun h => by cases h) (fun _ => ?_)
    simp
    refine call_h (get_c R1 32) (by simp) ?_
    rintro r w2 ⟨rfl, R2, M2⟩
    have hg := rGet_lt l p1 0 32
    rw [show ((32 : Nat) : Int) = 32 from rfl] at hg
    generalize rGet l p1 0 32 = g at *
    obtain ⟨u, p2, e2⟩ := g
    simp only at *
    simp
    refine callp (err_c R2) (by simp) ?_
    simp
    by_cases he : e2 ≠ 0
    · rw [if_pos he] at hO
      refine ite_r (t := true) (by simp [he]) (fun _ => ?_) (fun h => by cases h)
      refine callp (err_c R2) (by simp) ?_
      simp [hO]
      exact ⟨R2, M1.tr M2⟩
    obtain rfl : e2 = 0 := by omega
    rw [if_neg (by simp)] at hO
    refine ite_r (t := false) (by simp) (fun h => by cases h) (fun _ => ?_)
    have e1s : shr .u64 (u : Int) (K : Int) = ((u / 2 ^ K : Nat) : Int) := shrK _ K (by omega) (by omega)
    generalize u / 2 ^ K = q at *
    by_cases hb : 2147483648 ≤ u ∨ q < 32
    · rw [if_pos hb] at hO
      simp [e1s]
      refine ite_r (t := true) (by simp; omega) (fun _ => ?_) (fun h => by cases h)
      simp [hO]
      exact ⟨R2, M1.tr M2⟩
    · rw [if_neg hb] at hO
      simp [e1s]
      refine ite_r (t := false) (by simp; omega) (fun h => by cases h) (fun _ => ?_)
      simp
      refine callp (unfold_c u (by omega)) (by simp) ?_
      simp [hO]
      exact ⟨R2, M1.tr M2⟩

set_option maxHeartbeats 1000000 in
theorem rget_c {w : World} {F : Nat → Prop} {b : Nat} {l : List Nat} {p : Nat} {e : Int} (h : Rr w F b l p e) (k n : Int) :
    Calls Try.prog 54 [.pointer (some ⟨b, 0, none⟩), .int .i64 k, .int .i64 n].toArray w (Ret fun r w' => RowNew w w' r (getS l p e k n).1 ∧ RrAfter w F b l (getS l p e k n).2.1 (getS l p e k n).2.2 w') := by
  refine F_sound c54 (by simp [fc54]) ?_
  simp [fc54, s54]
  refine callp (rparam_c k) (by simp) ?_
  by_cases hbad : paramB k = false ∨ n < 0 ∨ 4194304 < n
  · simp
    refine ite_r (t := true) (by rcases hbad with h | h | h <;> simp [h]) (fun _ => ?_) (fun h => by cases h)
    have : getS l p e k n = (([], 1), p, e) := by rw [getS, if_pos hbad]
    simp [this]
    exact ⟨RowNew.bad, h, Mod.refl _ _⟩
  have hk : paramB k = true := by simpa using fun h => hbad (.inl h)
  have hk' := paramB_iff.1 hk
  rw [not_or] at hbad
  simp
  refine ite_r (t := false) (by simp [hk]; omega) (fun h => by cases h) (fun _ => ?_)
  simp
  refine callp (err_c h) (by simp) ?_
  simp
  by_cases he : e ≠ 0
  · refine ite_r (t := true) (by simp [he]) (fun _ => ?_) (fun h => by cases h)
    refine callp (err_c h) (by simp) ?_
    have : getS l p e k n = (([], e), p, e) := by rw [getS, if_neg (by rw [hk]; simp; omega), if_pos he]
    simp [this]
    exact ⟨RowNew.bad, h, Mod.refl _ _⟩
  obtain rfl : e = 0 := by omega
  refine ite_r (t := false) (by simp) (fun h => by cases h) (fun _ => ?_)
  have hG : getS l p 0 k n = getF l k.toNat n.toNat p [] := by rw [getS, if_neg (by rw [hk]; simp; omega), if_neg (by simp)]
  rw [hG]
  obtain ⟨K, rfl⟩ : ∃ K : Nat, k = K := ⟨k.toNat, by omega⟩
  obtain ⟨N, rfl⟩ : ∃ N : Nat, n = N := ⟨n.toNat, by omega⟩
  simp only [Int.toNat_natCast]
  simp
  refine for_r N (fun i env' w' => env' 0 = .pointer (some ⟨b, 0, none⟩) ∧ env' 1 = .int .i64 K ∧ env' 27 = .int .i64 N ∧ env' 28 = .int .i64 i ∧
    ∃ out q, out.length = i ∧ RrAfter w F b l q 0 w' ∧ w'.ownsRow 0 3 1 (env' 8) i (intsV out) ∧ (∀ k, (env' 8).ownBlock = some k → w.heap.size ≤ k) ∧ getF l K N p [] = getF l K (N - i) q out) ?_ ?_ ?_
  · simp
    exact ⟨p, ⟨h, Mod.refl _ _⟩, by simpa using World.ownsRow_nil _ _ _ _, fun k hk => by simp [Value.ownBlock] at hk, rfl⟩
  · rintro i env w' hi ⟨e0, e1, e27, e28, out, q, hol, ⟨R, M⟩, ho, hu, hF⟩
    rw [show N - i = (N - (i + 1)) + 1 by omega, getF] at hF
    simp [e27, e28]
    refine ite_r (t := true) (by simp [hi]) (fun _ => ?_) (fun h => by cases h)
    simp [wp_blk]
    refine call_h (one_c R K (by omega)) (by simp [e0, e1]) ?_
    rintro r w2 ⟨rfl, R2, M2⟩
    have hok := oneS_ok (l := l) (p := q) (K := K)
    generalize oneS l q K = O at *
    obtain ⟨⟨x, er⟩, p2, e2⟩ := O
    simp only at *
    simp
    by_cases her : er ≠ 0
    · rw [if_pos her] at hF
      refine ite_r (t := true) (by simp [her]) (fun _ => ?_) (fun h => by cases h)
      simp [hF]
      exact ⟨RowNew.bad, R2, M.tr M2⟩
    obtain rfl : er = 0 := by omega
    have he2 := hok rfl
    subst he2
    rw [if_neg (by simp)] at hF
    refine ite_r (t := false) (by simp) (fun h => by cases h) (fun _ => ?_)
    have hbl := h.lt b h.me
    have ho2 := M2.owns ho (fun k hk e => by have := hu k hk; omega)
    simp
    refine app1_r slTI ho2 (u := .int .i64 x) (by simp) (Nat.zero_le _) (by omega) (by unfold maxLen; omega) (by simp) (by simp) (by simp) (by simp) ?_
    intro vb v' w3 w4 _ ho4 hm4 hob _
    refine ⟨by simp, ?_⟩
    have R4 := R2.mod hm4 (fun k hk hk' => by have := hu k hk'; have := h.lt k hk; omega)
    have M4 : Mod (fun k => k = b) w w4 := (M.tr M2).trans hm4 (fun k hk hk' => by have := hu k hk'; omega)
    rw [intsV_snoc] at ho4
    simp (disch := omega) [wI, wU, tmod_nn, tdiv_nn, env0_0, env0_1, env0_2, env0_3, env0_4, env0_5, -env0_apply, e0, e1, e27, e28]
    refine ⟨out ++ [x], by simp [hol], p2, ⟨R4, M4⟩, ho4, fun k hk => ?_, hF⟩
    rcases hob k hk with h5 | h5
    · exact hu k h5
    · have := (M.tr M2).size; omega
  · rintro env w' ⟨e0, e1, e27, e28, out, q, hol, ⟨R, M⟩, ho, hu, hF⟩
    simp [e27, e28]
    refine ite_r (t := false) (by simp) (fun h => by cases h) (fun _ => ?_)
    rw [Nat.sub_self, getF] at hF
    simp [hF]
    exact ⟨⟨_, rfl, by rw [hol]; exact ho, hu⟩, R, M⟩

end Go.Proofs.Ytcljnpodfhgjkaa.VG

/-! ## Rice: the document's Get. -/
namespace Go.Proofs.Ytcljnpodfhgjkaa.VG
open Go
set_option linter.unusedSimpArgs false
set_option linter.unusedVariables false
set_option maxRecDepth 20000

theorem or_low (q K low : Nat) (hq : q < 32) (hK : K ≤ 25) (hl : low < 2 ^ K) : bitw .or .u64 ((q * 2 ^ K : Nat) : Int) (low : Int) = ((q * 2 ^ K + low : Nat) : Int) := by
  have h2 : 2 ^ K ≤ 2 ^ 25 := Nat.pow_le_pow_right (by omega) hK
  have h3 : q * 2 ^ K ≤ 31 * 2 ^ 25 := Nat.mul_le_mul (by omega) h2
  rw [bitw_or (by simp only [IntKind.bits]; omega) (by simp only [IntKind.bits]; omega), Nat.mul_comm q, ← Nat.two_pow_add_eq_or_of_lt hl]
  rw [Nat.mul_comm] at h3
  exact wrap_nat_u64 (by omega)

set_option maxHeartbeats 2000000 in
theorem xrget_c {w : World} {G : Nat → Prop} {b : Nat} {v : Value} {l : List Nat} {p : Nat} {e : Int} (h : Yr w G b v l p e) (hG : ∀ k, G k → k < w.heap.size) (k n : Int) :
    Calls Try.prog 78 [.pointer (some ⟨b, 0, none⟩), .int .i64 k, .int .i64 n].toArray w (Ret fun r w' => RowNew w w' r (getS l p e k n).1 ∧ YrAfter w G b v l (getS l p e k n).2.1 (getS l p e k n).2.2 w') := by
  refine F_sound c78 (by simp [fc78]) ?_
  simp [fc78, s78]
  refine callp (rparam2_c k) (by simp) ?_
  by_cases hbad : paramB k = false ∨ n < 0 ∨ 4194304 < n
  · simp
    refine ite_r (t := true) (by rcases hbad with h | h | h <;> simp [h]) (fun _ => ?_) (fun h => by cases h)
    have : getS l p e k n = (([], 1), p, e) := by rw [getS, if_pos hbad]
    simp [this]
    exact ⟨RowNew.bad, h, Mod.refl _ _⟩
  have hk : paramB k = true := by simpa using fun h => hbad (.inl h)
  have hk' := paramB_iff.1 hk
  rw [not_or] at hbad
  obtain ⟨c0, c1, c2, cS, cL⟩ := h.sl
  simp
  refine ite_r (t := false) (by simp [hk]; omega) (fun h => by cases h) (fun _ => ?_)
  simp [c2]
  by_cases he : e ≠ 0
  · refine ite_r (t := true) (by simp [he]) (fun _ => ?_) (fun h => by cases h)
    have : getS l p e k n = (([], e), p, e) := by rw [getS, if_neg (by rw [hk]; simp; omega), if_pos he]
    simp [this, c2]
    exact ⟨RowNew.bad, h.mod (Mod.refl none' _).drew (fun _ _ h => h) (fun h => h), (Mod.refl _ _).drew⟩
  obtain rfl : e = 0 := by omega
  refine ite_r (t := false) (by simp) (fun h => by cases h) (fun _ => ?_)
  have hGs : getS l p 0 k n = getF l k.toNat n.toNat p [] := by rw [getS, if_neg (by rw [hk]; simp; omega), if_neg (by simp)]
  rw [hGs]
  obtain ⟨K, rfl⟩ : ∃ K : Nat, k = K := ⟨k.toNat, by omega⟩
  obtain ⟨N, rfl⟩ : ∃ N : Nat, n = N := ⟨n.toNat, by omega⟩
  simp only [Int.toNat_natCast]
  simp
  have wK : IntKind.u64.wrap (K : Int) = K := wU (by omega) (by omega)
  refine for_r N (fun i env' w' => env' 0 = .pointer (some ⟨b, 0, none⟩) ∧ env' 1 = .int .i64 K ∧ env' 2 = .int .i64 N ∧ env' 9 = .int .i64 i ∧
    ∃ out q, out.length = i ∧ YrAfter w G b v l q 0 w' ∧ w'.ownsRow 0 3 1 (env' 8) i (intsV out) ∧ (∀ k, (env' 8).ownBlock = some k → w.heap.size ≤ k) ∧ getF l K N p [] = getF l K (N - i) q out) ?_ ?_ ?_
  · simp
    exact ⟨p, ⟨h, Mod.refl _ _⟩, by simpa using World.ownsRow_nil _ _ _ _, fun k hk => by simp [Value.ownBlock] at hk, rfl⟩
  · rintro i env w' hi ⟨e0, e1, e2, e9, out, q, hol, ⟨R, M⟩, ho, hu, hF⟩
    rw [show N - i = (N - (i + 1)) + 1 by omega, getF] at hF
    simp [e2, e9]
    refine ite_r (t := true) (by simp [hi]) (fun _ => ?_) (fun h => by cases h)
    simp [wp_blk]
    refine call_h (yunary_c R 32) (by simp [e0]) ?_
    rintro r w1 ⟨rfl, R1, M1⟩
    have hO : oneS l q K = if (rUnary l q 0 32).2.2 ≠ 0 then ((0, (rUnary l q 0 32).2.2), (rUnary l q 0 32).2)
      else if (rUnary l q 0 32).1 < 32 then
        ((unfI ((rUnary l q 0 32).1 * 2 ^ K + (rGet l (rUnary l q 0 32).2.1 0 K).1), (rGet l (rUnary l q 0 32).2.1 0 K).2.2), (rGet l (rUnary l q 0 32).2.1 0 K).2)
      else if (rGet l (rUnary l q 0 32).2.1 0 32).2.2 ≠ 0 then ((0, (rGet l (rUnary l q 0 32).2.1 0 32).2.2), (rGet l (rUnary l q 0 32).2.1 0 32).2)
      else if 2147483648 ≤ (rGet l (rUnary l q 0 32).2.1 0 32).1 ∨ (rGet l (rUnary l q 0 32).2.1 0 32).1 / 2 ^ K < 32 then ((0, 2), (rGet l (rUnary l q 0 32).2.1 0 32).2)
      else ((unfI (rGet l (rUnary l q 0 32).2.1 0 32).1, 0), (rGet l (rUnary l q 0 32).2.1 0 32).2) := rfl
    have hok := oneS_ok (l := l) (p := q) (K := K)
    generalize oneS l q K = O at *
    have hzb := rUnary_bd l q 0 32
    have hz0 : (rUnary l q 0 32).2.2 ≠ 0 → (rUnary l q 0 32).1 = 0 := by
      intro hne
      have key : ∀ f z, (unF l q 32 f z).2.2 ≠ 0 → (unF l q 32 f z).1 = 0 := by
        intro f
        induction f with
        | zero => intro z _; rfl
        | succ f ih =>
          intro z hh
          simp only [unF] at hh ⊢
          split
          · rfl
          · rename_i h1
            rw [if_neg h1] at hh
            split
            · rename_i h2; rw [if_pos h2] at hh; exact absurd rfl hh
            · rename_i h2
              rw [if_neg h2] at hh
              split
              · rfl
              · rename_i h3; rw [if_neg h3] at hh; exact ih _ hh
      have e3 : rUnary l q 0 32 = unF l q 32 (8 * l.length - q + 1) 0 := rfl
      rw [e3] at hne ⊢
      exact key _ _ hne
    generalize rUnary l q 0 32 = U at *
    obtain ⟨z, p1, e1'⟩ := U
    simp only at *
    have wz : IntKind.u64.wrap (z : Int) = z := wU (by omega) (by omega)
    simp
    -- what stands in 11, and where the reader is, behind the reading of one
    refine ite_cut (t := decide (z < 32)) (fun env2 w2 => env2 0 = .pointer (some ⟨b, 0, none⟩) ∧ env2 1 = .int .i64 K ∧ env2 2 = .int .i64 N ∧ env2 9 = .int .i64 i ∧ env2 8 = env 8 ∧
      ∃ u : Nat, u < 18446744073709551616 ∧ env2 11 = .int .u64 u ∧ YrAfter w' G b v l O.2.1 O.2.2 w2 ∧ O.1.2 = O.2.2 ∧ (O.2.2 = 0 → O.1.1 = unfI u)) ?_ ?_ ?_ ?_
    · simp; omega
    · intro h32
      have h32 : z < 32 := by simpa using h32
      obtain ⟨hs1, hs2⟩ := shlq z K h32 (by omega)
      simp [e1, wz, wK]
      by_cases hz : e1' ≠ 0
      · -- nothing more is read
        rw [if_pos hz] at hO
        have hzz := hz0 hz
        subst hzz
        refine call_h (yget_c R1 K) (by simp [e0, e1]) ?_
        have hg0 : rGet l p1 e1' K = (0, p1, e1') := by unfold rGet; rw [if_pos hz]
        rw [hg0]
        rintro r w2 ⟨rfl, R2, M2⟩
        have hor := or_low 0 K 0 (by omega) (by omega) (Nat.two_pow_pos K)
        simp [e0, e1, e2, e9, wz, wK]
        refine ⟨0, by omega, ?_, by rw [hO]; exact ⟨R2, M1.tr M2⟩, by rw [hO], fun h => by rw [hO] at h; exact absurd h hz⟩
        have hsh : shl .u64 (0 : Int) (K : Int) = 0 := by simpa using hs1
        rw [show IntKind.u64.wrap (0 : Int) = 0 from by decide, hsh]
        decide
      · obtain rfl : e1' = 0 := by omega
        rw [if_neg (by simp), if_pos h32] at hO
        refine call_h (yget_c R1 K) (by simp [e0, e1]) ?_
        rintro r w2 ⟨rfl, R2, M2⟩
        have hg := rGet_lt l p1 0 K
        have h2 : 2 ^ K ≤ 2 ^ 25 := Nat.pow_le_pow_right (by omega) (by omega)
        generalize rGet l p1 0 K = g at *
        obtain ⟨low, p2, e2'⟩ := g
        simp only at *
        have hor := or_low z K low h32 (by omega) hg
        simp [-Int.natCast_add, -Int.natCast_mul, -Int.natCast_pow, e0, e1, e2, e9, wz, wK, hs1, hor]
        exact ⟨z * 2 ^ K + low, by omega, by simp, by rw [hO]; exact ⟨R2, M1.tr M2⟩, by rw [hO], fun _ => by rw [hO]⟩
    · intro h32
      have h32 : ¬ z < 32 := by simpa using h32
      by_cases hz : e1' ≠ 0
      · have := hz0 hz; omega
      obtain rfl : e1' = 0 := by omega
      rw [if_neg (by simp), if_neg h32] at hO
      refine call_h (yget_c R1 32) (by simp [e0]) ?_
      rintro r w2 ⟨rfl, R2, M2⟩
      have hg := rGet_lt l p1 0 32
      rw [show ((32 : Nat) : Int) = 32 from rfl] at hg
      generalize rGet l p1 0 32 = g at *
      obtain ⟨u, p2, e2'⟩ := g
      simp only at *
      obtain ⟨d0, d1, d2, _, _⟩ := R2.sl
      have e1s : shr .u64 (u : Int) (K : Int) = ((u / 2 ^ K : Nat) : Int) := shrK _ K (by omega) (by omega)
      generalize u / 2 ^ K = qq at *
      simp [e0, e1, d2, wK, e1s]
      by_cases hbad2 : e2' = 0 ∧ (2147483648 ≤ u ∨ qq < 32)
      · obtain ⟨rfl, hb⟩ := hbad2
        rw [if_neg (by simp), if_pos hb] at hO
        rw [hO] at hF
        rw [if_pos (by simp)] at hF
        refine ite_r (t := true) (by simp; omega) (fun _ => ?_) (fun h => by cases h)
        simp [hF]
        have MM := (M.tr M1).tr M2
        exact ⟨RowNew.bad, R2, MM⟩
      · refine ite_r (t := false) (by simp; omega) (fun h => by cases h) (fun _ => ?_)
        simp [e0, e1, e2, e9]
        refine ⟨u, by omega, rfl, ?_⟩
        by_cases he2 : e2' ≠ 0
        · rw [if_pos he2] at hO
          exact ⟨by rw [hO]; exact ⟨R2, M1.tr M2⟩, by rw [hO], fun h => by rw [hO] at h; exact absurd h he2⟩
        · obtain rfl : e2' = 0 := by omega
          rw [if_neg (by simp), if_neg (by omega)] at hO
          exact ⟨by rw [hO]; exact ⟨R2, M1.tr M2⟩, by rw [hO], fun _ => by rw [hO]⟩
    · rintro env2 w2 ⟨f0, f1, f2, f9, f8, u, hul, f11, ⟨R2, M2⟩, hOe, hOu⟩
      obtain ⟨d0, d1, d2, _, _⟩ := R2.sl
      clear hO
      obtain ⟨⟨x, er⟩, p2, e2'⟩ := O
      simp only at *
      subst hOe
      simp [f0, d2]
      by_cases her : er ≠ 0
      · rw [if_pos her] at hF
        refine ite_r (t := true) (by simp [her]) (fun _ => ?_) (fun h => by cases h)
        simp [hF, f0, d2]
        exact ⟨RowNew.bad, R2.mod (Mod.refl none' _).drew (fun _ _ h => h) (fun h => h), (M.tr M2).drew⟩
      obtain rfl : er = 0 := by omega
      rw [if_neg (by simp), hOu rfl] at hF
      refine ite_r (t := false) (by simp) (fun h => by cases h) (fun _ => ?_)
      simp
      refine callp (unfold2_c u hul) (by simp [f11]) ?_
      have hbl := h.lt
      have ho2 := M2.owns ho (fun k hk e => by have := hu k hk; omega)
      rw [← f8] at ho2 hu
      simp
      refine app1_r slTI ho2 (u := .int .i64 (unfI u)) (by simp) (Nat.zero_le _) (by omega) (by unfold maxLen; omega) (by simp) (by simp) (by simp) (by simp) ?_
      intro vb v' w3 w4 _ ho4 hm4 hob _
      refine ⟨by simp, ?_⟩
      have R4 := R2.mod hm4 (fun k hk hk' => by have := hu k hk'; have := hG k hk; omega) (fun hk' => by have := hu b hk'; omega)
      have M4 : Mod (fun k => k = b) w w4 := (M.tr M2).trans hm4 (fun k hk hk' => by have := hu k hk'; omega)
      rw [intsV_snoc] at ho4
      simp (disch := omega) [wI, wU, tmod_nn, tdiv_nn, env0_0, env0_1, env0_2, env0_3, env0_4, env0_5, -env0_apply, f0, f1, f2, f9]
      refine ⟨out ++ [unfI u], by simp [hol], p2, ⟨R4, M4⟩, ho4, fun k hk => ?_, hF⟩
      rcases hob k hk with h5 | h5
      · exact hu k h5
      · have := (M.tr M2).size; omega
  · rintro env w' ⟨e0, e1, e2, e9, out, q, hol, ⟨R, M⟩, ho, hu, hF⟩
    simp [e2, e9]
    refine ite_r (t := false) (by simp) (fun h => by cases h) (fun _ => ?_)
    rw [Nat.sub_self, getF] at hF
    simp [hF]
    exact ⟨⟨_, rfl, by rw [hol]; exact ho, hu⟩, R, M⟩

end Go.Proofs.Ytcljnpodfhgjkaa.VG
