/-
  Rice: plain; folding, costs: what each call comes to (and what goes with it: parts Ra Rb).
-/
import Derived.Test.YtajkofndbeohpaaCm

/-! ## Rice: plain; folding, costs: what each call comes to. -/
namespace Go.Proofs.Ytajkofndbeohpaa.VG
open Go
set_option linter.unusedSimpArgs false
set_option linter.unusedVariables false

def foldN (x : Int) : Nat := if wideB x then (if 0 ≤ x then (2 * x).toNat else (-2 * x - 1).toNat) else 0
def unfI (u : Nat) : Int := if 2147483648 ≤ u then 0 else if u % 2 = 0 then ((u / 2 : Nat) : Int) else -((u / 2 : Nat) : Int) - 1
def paramB (k : Int) : Bool := decide (0 ≤ k) && decide (k ≤ 25)
theorem paramB_iff {k : Int} : paramB k = true ↔ 0 ≤ k ∧ k ≤ 25 := by simp [paramB]
theorem foldN_lt (x : Int) : foldN x < 2147483648 := by
  unfold foldN
  split
  · rename_i h
    have := wideB_iff.1 h
    split <;> omega
  · omega
theorem foldN_pos {x : Int} (h : wideB x = true) (h0 : 0 ≤ x) : (foldN x : Int) = 2 * x := by rw [foldN, if_pos h, if_pos h0]; omega
theorem foldN_neg {x : Int} (h : wideB x = true) (h0 : ¬ 0 ≤ x) : (foldN x : Int) = -2 * x - 1 := by rw [foldN, if_pos h, if_neg h0]; omega
theorem foldN_zero {x : Int} (h : wideB x = false) : foldN x = 0 := by rw [foldN, h]; rfl
theorem unf_fold {x : Int} (h : wideB x = true) : unfI (foldN x) = x := by
  have h1 := foldN_lt x
  unfold unfI
  rw [if_neg (by omega)]
  by_cases h0 : 0 ≤ x
  · have := foldN_pos h h0
    rw [if_pos (by omega)]; omega
  · have := foldN_neg h h0
    rw [if_neg (by omega)]; omega
theorem fold_unf {u : Nat} (h : u < 2147483648) : wideB (unfI u) = true ∧ foldN (unfI u) = u := by
  have hw : wideB (unfI u) = true := by
    rw [wideB_iff]; unfold unfI; rw [if_neg (by omega)]
    split <;> omega
  refine ⟨hw, ?_⟩
  have e : unfI u = if u % 2 = 0 then ((u / 2 : Nat) : Int) else -((u / 2 : Nat) : Int) - 1 := by rw [unfI, if_neg (by omega)]
  by_cases h2 : u % 2 = 0
  · rw [if_pos h2] at e
    have := foldN_pos hw (by omega)
    omega
  · rw [if_neg h2] at e
    have := foldN_neg hw (by omega)
    omega

theorem rwide_c {w : World} (x : Int) : Calls Try.prog 68 [.int .i64 x].toArray w (Ret fun r w' => r = .bool (wideB x) ∧ w' = w) := by
  refine F_sound c68 (by simp [fc68]) ?_
  simp [fc68, s68, wideB]
theorem rparam_c {w : World} (k : Int) : Calls Try.prog 67 [.int .i64 k].toArray w (Ret fun r w' => r = .bool (paramB k) ∧ w' = w) := by
  refine F_sound c67 (by simp [fc67]) ?_
  simp [fc67, s67, paramB]
theorem rparam2_c {w : World} (k : Int) : Calls Try.prog 44 [.int .i64 k].toArray w (Ret fun r w' => r = .bool (paramB k) ∧ w' = w) := by
  refine F_sound c44 (by simp [fc44]) ?_
  simp [fc44, s44, paramB]

theorem fold_c {w : World} (x : Int) : Calls Try.prog 69 [.int .i64 x].toArray w (Ret fun r w' => r = .int .u64 (foldN x) ∧ w' = w) := by
  refine F_sound c69 (by simp [fc69]) ?_
  simp [fc69, s69, wp_blk]
  refine callp (rwide_c x) (by simp) ?_
  cases h : wideB x
  · simp (disch := first | omega | (simp [foldN_zero h]; done) | (simp [foldN_zero h]; omega)) [wI, wU, tmod_nn, tdiv_nn, env0_0, env0_1, env0_2, env0_3, env0_4, env0_5, -env0_apply, wp_ite_t, wp_ite_f, wp_ifg_y, wp_ifg_n, foldN_zero h]
  · have hw := wideB_iff.1 h
    by_cases h0 : 0 ≤ x
    · have := foldN_pos h h0
      simp (disch := first | omega | (simp [h0, this]; done) | (simp [h0, this]; omega)) [wI, wU, tmod_nn, tdiv_nn, env0_0, env0_1, env0_2, env0_3, env0_4, env0_5, -env0_apply, wp_ite_t, wp_ite_f, wp_ifg_y, wp_ifg_n, h0, this]
    · have := foldN_neg h h0
      have e1 : IntKind.i64.wrap (-(2 * x)) = -(2 * x) := wI (by omega) (by omega)
      have e2 : IntKind.i64.wrap (-2 * x) = -2 * x := wI (by omega) (by omega)
      simp (disch := first | omega | (simp [h0, this, e1, e2]; done) | (simp [h0, this, e1, e2]; omega)) [wI, wU, tmod_nn, tdiv_nn, env0_0, env0_1, env0_2, env0_3, env0_4, env0_5, -env0_apply, wp_ite_t, wp_ite_f, wp_ifg_y, wp_ifg_n, h0, this, e1, e2]

theorem xor_u (x : Nat) (h : x < 18446744073709551616) : bitw .xor .u64 18446744073709551615 (x : Int) = ((18446744073709551615 - x : Nat) : Int) := by
  show IntKind.u64.wrap ((BitVec.ofInt 64 18446744073709551615 ^^^ BitVec.ofInt 64 (x : Int)).toNat : Int) = _
  have e : BitVec.ofInt 64 18446744073709551615 = BitVec.allOnes 64 := by decide
  rw [e]
  have e2 : (BitVec.allOnes 64 ^^^ BitVec.ofInt 64 (x : Int)).toNat = 18446744073709551615 - x := by
    rw [ofInt_nat]
    have : BitVec.allOnes 64 ^^^ BitVec.ofNat 64 x = ~~~ (BitVec.ofNat 64 x) := BitVec.allOnes_xor
    show (BitVec.allOnes 64 ^^^ BitVec.ofNat 64 x).toNat = _
    rw [this, BitVec.toNat_not, BitVec.toNat_ofNat, Nat.mod_eq_of_lt (by omega)]
  rw [e2]
  exact wrap_nat_u64 (by omega)
theorem xor_i (x : Nat) (h : x < 9223372036854775808) : bitw .xor .i64 (-1) (x : Int) = -(x : Int) - 1 := by
  show IntKind.i64.wrap ((BitVec.ofInt 64 (-1) ^^^ BitVec.ofInt 64 (x : Int)).toNat : Int) = _
  have e : BitVec.ofInt 64 (-1) = BitVec.allOnes 64 := by decide
  rw [e]
  have e2 : (BitVec.allOnes 64 ^^^ BitVec.ofInt 64 (x : Int)).toNat = 18446744073709551615 - x := by
    rw [ofInt_nat]
    have : BitVec.allOnes 64 ^^^ BitVec.ofNat 64 x = ~~~ (BitVec.ofNat 64 x) := BitVec.allOnes_xor
    show (BitVec.allOnes 64 ^^^ BitVec.ofNat 64 x).toNat = _
    rw [this, BitVec.toNat_not, BitVec.toNat_ofNat, Nat.mod_eq_of_lt (by omega)]
  rw [e2]
  unfold IntKind.wrap IntKind.bits IntKind.signed
  simp only [Bool.true_and, decide_eq_true_eq]
  split <;> omega
theorem maxU : IntKind.u64.max = 18446744073709551615 := by decide
theorem sgnU : IntKind.u64.signed = false := rfl
theorem sgnI' : IntKind.i64.signed = true := rfl

theorem zig_c {w : World} (x : Int) (h : wideB x = true) : Calls Try.prog 85 [.int .i64 x].toArray w (Ret fun r w' => r = .int .u64 (foldN x) ∧ w' = w) := by
  refine F_sound c85 (by simp [fc85]) ?_
  simp [fc85, s85]
  have hw := wideB_iff.1 h
  by_cases h0 : 0 ≤ x
  · have hf := foldN_pos h h0
    have e1 : IntKind.u64.wrap x = x := wU (by omega) (by omega)
    have e2 : shl .u64 x 1 = 2 * x := by
      obtain ⟨X, rfl⟩ : ∃ X : Nat, x = X := ⟨x.toNat, by omega⟩
      have := shl_nat .u64 X 1 (by decide)
      rw [show ((1 : Nat) : Int) = 1 from rfl] at this
      rw [this, wrap_nat_u64 (by omega)]; omega
    simp (disch := first | omega | (simp [h0, hf, e1, e2]; done) | (simp [h0, hf, e1, e2]; omega)) [wI, wU, tmod_nn, tdiv_nn, env0_0, env0_1, env0_2, env0_3, env0_4, env0_5, -env0_apply, wp_ite_t, wp_ite_f, wp_ifg_y, wp_ifg_n, h0, hf, e1, e2]
  · have hf := foldN_neg h h0
    have e1 : IntKind.u64.wrap x = ((18446744073709551616 - x.natAbs : Nat) : Int) := by
      unfold IntKind.wrap IntKind.bits IntKind.signed
      simp only [Bool.false_and, Bool.false_eq_true, if_false]
      omega
    have e2 : shl .u64 ((18446744073709551616 - x.natAbs : Nat) : Int) 1 = ((18446744073709551616 - 2 * x.natAbs : Nat) : Int) := by
      have := shl_nat .u64 (18446744073709551616 - x.natAbs) 1 (by decide)
      rw [show ((1 : Nat) : Int) = 1 from rfl] at this
      rw [this]
      unfold IntKind.wrap IntKind.bits IntKind.signed
      simp only [Bool.false_and, Bool.false_eq_true, if_false]
      omega
    have e3 := xor_u (18446744073709551616 - 2 * x.natAbs) (by omega)
    rw [show ((18446744073709551615 - (18446744073709551616 - 2 * x.natAbs) : Nat) : Int) = foldN x by omega] at e3
    have h0' : x < 0 := by omega
    refine ite_r (t := true) (by simp [h0']) (fun _ => ?_) (fun h => by cases h)
    simp [e1, e2, e3, maxU, sgnU]
theorem fold2_c {w : World} (x : Int) : Calls Try.prog 72 [.int .i64 x].toArray w (Ret fun r w' => r = .int .u64 (foldN x) ∧ w' = w) := by
  refine F_sound c72 (by simp [fc72]) ?_
  simp [fc72, s72]
  refine callp (wide2_c x) (by simp) ?_
  cases h : wideB x
  · simp (disch := first | omega | (simp [foldN_zero h]; done) | (simp [foldN_zero h]; omega)) [wI, wU, tmod_nn, tdiv_nn, env0_0, env0_1, env0_2, env0_3, env0_4, env0_5, -env0_apply, wp_ite_t, wp_ite_f, wp_ifg_y, wp_ifg_n, foldN_zero h]
  · simp (disch := first | omega | (simp; done) | (simp; omega)) [wI, wU, tmod_nn, tdiv_nn, env0_0, env0_1, env0_2, env0_3, env0_4, env0_5, -env0_apply, wp_ite_t, wp_ite_f, wp_ifg_y, wp_ifg_n]
    refine callp (zig_c x h) (by simp) ?_
    simp
theorem unfold_c {w : World} (u : Nat) (hu : u < 18446744073709551616) : Calls Try.prog 91 [.int .u64 u].toArray w (Ret fun r w' => r = .int .i64 (unfI u) ∧ w' = w) := by
  refine F_sound c91 (by simp [fc91]) ?_
  simp [fc91, s91, wp_blk]
  by_cases h : 2147483648 ≤ u
  · have h' : (2147483648 : Int) ≤ u := by omega
    simp (disch := first | omega | (simp [h', unfI, h]; done) | (simp [h', unfI, h]; omega)) [wI, wU, tmod_nn, tdiv_nn, env0_0, env0_1, env0_2, env0_3, env0_4, env0_5, -env0_apply, wp_ite_t, wp_ite_f, wp_ifg_y, wp_ifg_n, h', unfI, h]
  · by_cases h2 : u % 2 = 0
    · have h2' : (u : Int) % 2 = 0 := by omega
      simp (disch := first | omega | (simp [unfI, h, h2, h2']; done) | (simp [unfI, h, h2, h2']; omega)) [wI, wU, tmod_nn, tdiv_nn, env0_0, env0_1, env0_2, env0_3, env0_4, env0_5, -env0_apply, wp_ite_t, wp_ite_f, wp_ifg_y, wp_ifg_n, unfI, h, h2, h2']
    · have h2' : ¬ (u : Int) % 2 = 0 := by omega
      simp (disch := first | omega | (simp [unfI, h, h2, h2']; done) | (simp [unfI, h, h2, h2']; omega)) [wI, wU, tmod_nn, tdiv_nn, env0_0, env0_1, env0_2, env0_3, env0_4, env0_5, -env0_apply, wp_ite_t, wp_ite_f, wp_ifg_y, wp_ifg_n, unfI, h, h2, h2']
theorem zag_c {w : World} (u : Nat) (hu : u < 2147483648) : Calls Try.prog 92 [.int .u64 u].toArray w (Ret fun r w' => r = .int .i64 (unfI u) ∧ w' = w) := by
  refine F_sound c92 (by simp [fc92]) ?_
  simp [fc92, s92]
  have e1 : shr .u64 (u : Int) 1 = ((u / 2 : Nat) : Int) := shr_nat .u64 u 1 (by decide)
  have e2 : bitw .and .u64 (u : Int) 1 = ((u % 2 : Nat) : Int) := bitw_and1 (by simp only [IntKind.bits]; omega)
  have e3 : IntKind.i64.wrap ((u / 2 : Nat) : Int) = ((u / 2 : Nat) : Int) := wI (by omega) (by omega)
  have e4 := xor_i (u / 2) (by omega)
  have hq : unfI u = if u % 2 = 0 then ((u / 2 : Nat) : Int) else -((u / 2 : Nat) : Int) - 1 := by rw [unfI, if_neg (by omega)]
  by_cases h2 : u % 2 = 0
  · rw [if_pos h2] at hq
    refine ite_r (t := false) (by simp [-Int.natCast_emod, e2, h2]) (fun h => by cases h) (fun _ => ?_)
    simp [-Int.natCast_ediv, e1, e3, hq]
  · rw [if_neg h2] at hq
    have h3 : u % 2 = 1 := by omega
    refine ite_r (t := true) (by simp [-Int.natCast_emod, e2, h3]) (fun _ => ?_) (fun h => by cases h)
    simp [-Int.natCast_ediv, e1, e3, e4, hq, sgnI']
theorem unfold2_c {w : World} (u : Nat) (hu : u < 18446744073709551616) : Calls Try.prog 88 [.int .u64 u].toArray w (Ret fun r w' => r = .int .i64 (unfI u) ∧ w' = w) := by
  refine F_sound c88 (by simp [fc88]) ?_
  simp [fc88, s88]
  by_cases h : 2147483648 ≤ u
  · have h' : (2147483648 : Int) ≤ u := by omega
    simp (disch := first | omega | (simp [h', unfI, h]; done) | (simp [h', unfI, h]; omega)) [wI, wU, tmod_nn, tdiv_nn, env0_0, env0_1, env0_2, env0_3, env0_4, env0_5, -env0_apply, wp_ite_t, wp_ite_f, wp_ifg_y, wp_ifg_n, h', unfI, h]
  · have h' : ¬ (2147483648 : Int) ≤ u := by omega
    simp (disch := first | omega | (simp [h']; done) | (simp [h']; omega)) [wI, wU, tmod_nn, tdiv_nn, env0_0, env0_1, env0_2, env0_3, env0_4, env0_5, -env0_apply, wp_ite_t, wp_ite_f, wp_ifg_y, wp_ifg_n, h']
    refine callp (zag_c u (by omega)) (by simp) ?_
    simp

/-! ### Costs -/
def quoN (k : Int) (x : Int) : Nat := foldN x / 2 ^ k.toNat
def costI (k x : Int) : Int := if paramB k && wideB x then (if quoN k x < 32 then (quoN k x : Int) + 1 + k else 65) else 0
theorem quoN_le (k x : Int) : quoN k x < 2147483648 := Nat.lt_of_le_of_lt (Nat.div_le_self _ _) (foldN_lt x)
theorem costI_bd (k x : Int) : 0 ≤ costI k x ∧ costI k x ≤ 65 := by
  unfold costI
  split
  · rename_i h
    rw [Bool.and_eq_true, paramB_iff] at h
    split <;> omega
  · omega
theorem shrK (u : Nat) (k : Int) (h0 : 0 ≤ k) (h1 : k ≤ 25) : shr .u64 (u : Int) k = ((u / 2 ^ k.toNat : Nat) : Int) := by
  obtain ⟨K, rfl⟩ : ∃ K : Nat, k = K := ⟨k.toNat, by omega⟩
  exact shr_nat .u64 u K (by simp only [IntKind.bits]; omega)

theorem cost_c {w : World} (k x : Int) : Calls Try.prog 54 [.int .i64 k, .int .i64 x].toArray w (Ret fun r w' => r = .int .i64 (costI k x) ∧ w' = w) := by
  refine F_sound c54 (by simp [fc54]) ?_
  simp [fc54, s54]
  refine callp (rparam_c k) (by simp) ?_
  cases hk : paramB k
  · simp (disch := first | omega | (simp [costI, hk]; done) | (simp [costI, hk]; omega)) [wI, wU, tmod_nn, tdiv_nn, env0_0, env0_1, env0_2, env0_3, env0_4, env0_5, -env0_apply, wp_ite_t, wp_ite_f, wp_ifg_y, wp_ifg_n, costI, hk]
  simp (disch := first | omega | (simp; done) | (simp; omega)) [wI, wU, tmod_nn, tdiv_nn, env0_0, env0_1, env0_2, env0_3, env0_4, env0_5, -env0_apply, wp_ite_t, wp_ite_f, wp_ifg_y, wp_ifg_n]
  refine callp (rwide_c x) (by simp) ?_
  cases hx : wideB x
  · simp (disch := first | omega | (simp [costI, hk, hx]; done) | (simp [costI, hk, hx]; omega)) [wI, wU, tmod_nn, tdiv_nn, env0_0, env0_1, env0_2, env0_3, env0_4, env0_5, -env0_apply, wp_ite_t, wp_ite_f, wp_ifg_y, wp_ifg_n, costI, hk, hx]
  have hk' := paramB_iff.1 hk
  simp (disch := first | omega | (simp; done) | (simp; omega)) [wI, wU, tmod_nn, tdiv_nn, env0_0, env0_1, env0_2, env0_3, env0_4, env0_5, -env0_apply, wp_ite_t, wp_ite_f, wp_ifg_y, wp_ifg_n]
  refine callp (fold_c x) (by simp) ?_
  have e1 : shr .u64 (foldN x : Int) k = (quoN k x : Int) := shrK _ k hk'.1 hk'.2
  have hq := quoN_le k x
  by_cases h32 : quoN k x < 32
  · have h32' : (quoN k x : Int) < 32 := by omega
    simp (disch := first | omega | (simp [costI, hk, hx, e1, h32, h32']; done) | (simp [costI, hk, hx, e1, h32, h32']; omega)) [wI, wU, tmod_nn, tdiv_nn, env0_0, env0_1, env0_2, env0_3, env0_4, env0_5, -env0_apply, wp_ite_t, wp_ite_f, wp_ifg_y, wp_ifg_n, costI, hk, hx, e1, h32, h32']
    omega
  · have h32' : ¬ (quoN k x : Int) < 32 := by omega
    simp (disch := first | omega | (simp [costI, hk, hx, e1, h32, h32']; done) | (simp [costI, hk, hx, e1, h32, h32']; omega)) [wI, wU, tmod_nn, tdiv_nn, env0_0, env0_1, env0_2, env0_3, env0_4, env0_5, -env0_apply, wp_ite_t, wp_ite_f, wp_ifg_y, wp_ifg_n, costI, hk, hx, e1, h32, h32']
    omega
theorem cost2_c {w : World} (k x : Int) : Calls Try.prog 82 [.int .i64 k, .int .i64 x].toArray w (Ret fun r w' => r = .int .i64 (costI k x) ∧ w' = w) := by
  refine F_sound c82 (by simp [fc82]) ?_
  simp [fc82, s82]
  refine callp (rparam2_c k) (by simp) ?_
  cases hk : paramB k
  · simp (disch := first | omega | (simp [costI, hk]; done) | (simp [costI, hk]; omega)) [wI, wU, tmod_nn, tdiv_nn, env0_0, env0_1, env0_2, env0_3, env0_4, env0_5, -env0_apply, wp_ite_t, wp_ite_f, wp_ifg_y, wp_ifg_n, costI, hk]
  simp (disch := first | omega | (simp; done) | (simp; omega)) [wI, wU, tmod_nn, tdiv_nn, env0_0, env0_1, env0_2, env0_3, env0_4, env0_5, -env0_apply, wp_ite_t, wp_ite_f, wp_ifg_y, wp_ifg_n]
  refine callp (wide2_c x) (by simp) ?_
  cases hx : wideB x
  · simp (disch := first | omega | (simp [costI, hk, hx]; done) | (simp [costI, hk, hx]; omega)) [wI, wU, tmod_nn, tdiv_nn, env0_0, env0_1, env0_2, env0_3, env0_4, env0_5, -env0_apply, wp_ite_t, wp_ite_f, wp_ifg_y, wp_ifg_n, costI, hk, hx]
  have hk' := paramB_iff.1 hk
  simp (disch := first | omega | (simp; done) | (simp; omega)) [wI, wU, tmod_nn, tdiv_nn, env0_0, env0_1, env0_2, env0_3, env0_4, env0_5, -env0_apply, wp_ite_t, wp_ite_f, wp_ifg_y, wp_ifg_n]
  refine callp (fold2_c x) (by simp) ?_
  have e1 : shr .u64 (foldN x : Int) k = (quoN k x : Int) := shrK _ k hk'.1 hk'.2
  have e2 : IntKind.u64.wrap k = k := wU (by omega) (by omega)
  have hq := quoN_le k x
  by_cases h32 : quoN k x < 32
  · have h32' : (quoN k x : Int) < 32 := by omega
    simp (disch := first | omega | (simp [costI, hk, hx, e1, e2, h32, h32']; done) | (simp [costI, hk, hx, e1, e2, h32, h32']; omega)) [wI, wU, tmod_nn, tdiv_nn, env0_0, env0_1, env0_2, env0_3, env0_4, env0_5, -env0_apply, wp_ite_t, wp_ite_f, wp_ifg_y, wp_ifg_n, costI, hk, hx, e1, e2, h32, h32']
    omega
  · have h32' : ¬ (quoN k x : Int) < 32 := by omega
    simp (disch := first | omega | (simp [costI, hk, hx, e1, e2, h32, h32']; done) | (simp [costI, hk, hx, e1, e2, h32, h32']; omega)) [wI, wU, tmod_nn, tdiv_nn, env0_0, env0_1, env0_2, env0_3, env0_4, env0_5, -env0_apply, wp_ite_t, wp_ite_f, wp_ifg_y, wp_ifg_n, costI, hk, hx, e1, e2, h32, h32']
    omega

end Go.Proofs.Ytajkofndbeohpaa.VG

/-! ## Rice: sums, the best parameter: what each call comes to. -/
namespace Go.Proofs.Ytajkofndbeohpaa.VG
open Go
set_option linter.unusedSimpArgs false
set_option linter.unusedVariables false

def sumTo (k : Int) (l : List Int) : Nat → Int
  | 0 => 0
  | i + 1 => sumTo k l i + costI k (gi l i)
def sumI (k : Int) (l : List Int) : Int := sumTo k l l.length
theorem sumTo_bd (k : Int) (l : List Int) : ∀ i : Nat, 0 ≤ sumTo k l i ∧ sumTo k l i ≤ 65 * (i : Int)
  | 0 => by simp [sumTo]
  | i + 1 => by
    have h1 := sumTo_bd k l i
    have h2 := costI_bd k (gi l i)
    simp only [sumTo]; omega
def bestF (l : List Int) : Nat → Nat × Int
  | 0 => (0, sumI 0 l)
  | i + 1 => if sumI ((i + 1 : Nat) : Int) l < (bestF l i).2 then (i + 1, sumI ((i + 1 : Nat) : Int) l) else bestF l i
def bestN (l : List Int) : Nat := (bestF l 25).1
theorem bestF_sum (l : List Int) : ∀ i, (bestF l i).2 = sumI ((bestF l i).1 : Int) l
  | 0 => rfl
  | i + 1 => by
    simp only [bestF]
    split
    · rfl
    · exact bestF_sum l i
theorem bestF_le (l : List Int) : ∀ i, (bestF l i).1 ≤ i
  | 0 => Nat.le_refl _
  | i + 1 => by
    simp only [bestF]
    split
    · exact Nat.le_refl _
    · have := bestF_le l i; omega
theorem bestF_least (l : List Int) : ∀ i k : Nat, k ≤ i → (bestF l i).2 ≤ sumI (k : Int) l ∧ (k < (bestF l i).1 → (bestF l i).2 < sumI (k : Int) l)
  | 0, k, h => by
    obtain rfl : k = 0 := by omega
    exact ⟨Int.le_refl _, fun h => by simp [bestF] at h⟩
  | i + 1, k, h => by
    simp only [bestF]
    split
    · rename_i hlt
      by_cases hk : k = i + 1
      · subst hk; exact ⟨Int.le_refl _, fun h => by simp at h⟩
      · have := (bestF_least l i k (by omega)).1
        exact ⟨by show sumI _ _ ≤ _; omega, fun _ => by show sumI _ _ < _; omega⟩
    · rename_i hlt
      by_cases hk : k = i + 1
      · subst hk
        have := bestF_le l i
        exact ⟨by omega, fun h => by omega⟩
      · exact bestF_least l i k (by omega)

theorem sum_c {G : Nat → Prop} {w : World} {v : Value} {l : List Int} (k : Int) (h : Rd G w v l.length (intsV l)) (hl : l.length ≤ 1000000) :
    Calls Try.prog 29 [.int .i64 k, v].toArray w (Ret fun r w' => r = .int .i64 (sumI k l) ∧ w' = w) := by
  refine F_sound c29 (by simp [fc29]) ?_
  obtain ⟨hS, hL⟩ := h.sl
  simp [fc29, s29, hS, hL]
  refine for_r l.length (fun i env' w' => env' 0 = .int .i64 k ∧ env' 5 = .int .i64 (sumTo k l i) ∧ env' 8 = v ∧ env' 9 = .int .i64 l.length ∧ env' 10 = .int .i64 i ∧ w' = w) ?_ ?_ ?_
  · simp [sumTo]
  · rintro i env w hi ⟨e0, e5, e8, e9, e10, rfl⟩
    have hc := h.gi i hi
    have hp := h.some (by omega)
    have hb := sumTo_bd k l i
    have hb2 := costI_bd k (gi l i)
    simp [e9, e10]
    refine ite_r (t := true) (by simp [hi]) (fun _ => ?_) (fun h => by cases h)
    simp [wp_blk, e8, e10, hS, hL, hp, hc, hi]
    refine callp (cost_c k (gi l i)) (by simp [e0]) ?_
    simp (disch := omega) [wI, wU, tmod_nn, tdiv_nn, env0_0, env0_1, env0_2, env0_3, env0_4, env0_5, -env0_apply, e0, e5, e8, e9, e10, sumTo]
  · rintro env w ⟨e0, e5, e8, e9, e10, rfl⟩
    simp [e9, e10]
    refine ite_r (t := false) (by simp) (fun h => by cases h) (fun _ => ?_)
    simp [e5, sumI]
theorem sum2_c {G : Nat → Prop} {w : World} {v : Value} {l : List Int} (k : Int) (h : Rd G w v l.length (intsV l)) (hl : l.length ≤ 1000000) :
    Calls Try.prog 66 [.int .i64 k, v].toArray w (Ret fun r w' => r = .int .i64 (sumI k l) ∧ w' = w) := by
  refine F_sound c66 (by simp [fc66]) ?_
  obtain ⟨hS, hL⟩ := h.sl
  simp [fc66, s66]
  refine for_r l.length (fun i env' w' => env' 0 = .int .i64 k ∧ env' 1 = v ∧ env' 5 = .int .i64 (sumTo k l i) ∧ env' 6 = .int .i64 i ∧ w' = w) ?_ ?_ ?_
  · simp [sumTo]
  · rintro i env w hi ⟨e0, e1, e5, e6, rfl⟩
    have hc := h.gi i hi
    have hp := h.some (by omega)
    have hb := sumTo_bd k l i
    have hb2 := costI_bd k (gi l i)
    simp [e1, e6, hS, hL]
    refine ite_r (t := true) (by simp [hi]) (fun _ => ?_) (fun h => by cases h)
    simp [wp_blk, e1, e6, hS, hL, hp, hc, hi]
    refine callp (cost2_c k (gi l i)) (by simp [e0]) ?_
    simp (disch := omega) [wI, wU, tmod_nn, tdiv_nn, env0_0, env0_1, env0_2, env0_3, env0_4, env0_5, -env0_apply, e0, e1, e5, e6, sumTo]
  · rintro env w ⟨e0, e1, e5, e6, rfl⟩
    simp [e1, e6, hS, hL]
    refine ite_r (t := false) (by simp) (fun h => by cases h) (fun _ => ?_)
    simp [e5, sumI]
theorem best_c {G : Nat → Prop} {w : World} {v : Value} {l : List Int} (h : Rd G w v l.length (intsV l)) (hl : l.length ≤ 1000000) :
    Calls Try.prog 78 [v].toArray w (Ret fun r w' => r = .int .i64 (bestN l) ∧ w' = w) := by
  refine F_sound c78 (by simp [fc78]) ?_
  simp [fc78, s78]
  refine callp (sum_c 0 h hl) (by simp) ?_
  simp
  refine for_r 25 (fun i env' w' => env' 0 = v ∧ env' 3 = .int .i64 (bestF l i).1 ∧ env' 4 = .int .i64 (bestF l i).2 ∧ env' 5 = .int .i64 ((i + 1 : Nat) : Int) ∧ w' = w) ?_ ?_ ?_
  · simp [bestF]
  · rintro i env w hi ⟨e0, e3, e4, e5, rfl⟩
    simp [e5]
    refine ite_r (t := true) (by simp; omega) (fun _ => ?_) (fun h => by cases h)
    simp [wp_blk]
    refine callp (sum_c ((i + 1 : Nat) : Int) h hl) (by simp [e0, e5]) ?_
    simp [e4, -Int.natCast_add]
    by_cases hlt : sumI ((i + 1 : Nat) : Int) l < (bestF l i).2
    · refine ite_r (t := true) (by simp [hlt, -Int.natCast_add]) (fun _ => ?_) (fun h => by cases h)
      simp (disch := omega) [wI, wU, tmod_nn, tdiv_nn, env0_0, env0_1, env0_2, env0_3, env0_4, env0_5, -env0_apply, e0, e3, e4, e5, bestF]
      rw [if_pos (by simpa using hlt)]
      simp
    · refine ite_r (t := false) (by simp [-Int.natCast_add]; omega) (fun h => by cases h) (fun _ => ?_)
      simp (disch := omega) [wI, wU, tmod_nn, tdiv_nn, env0_0, env0_1, env0_2, env0_3, env0_4, env0_5, -env0_apply, e0, e3, e4, e5, bestF]
      rw [if_neg (by simpa using hlt)]
      exact ⟨rfl, rfl⟩
  · rintro env w ⟨e0, e3, e4, e5, rfl⟩
    simp [e5]
    refine ite_r (t := false) (by simp) (fun h => by cases h) (fun _ => ?_)
    simp [e3, bestN]
theorem best2_c {G : Nat → Prop} {w : World} {v : Value} {l : List Int} (h : Rd G w v l.length (intsV l)) (hl : l.length ≤ 1000000) :
    Calls Try.prog 79 [v].toArray w (Ret fun r w' => r = .int .i64 (bestN l) ∧ w' = w) := by
  refine F_sound c79 (by simp [fc79]) ?_
  simp [fc79, s79]
  refine for_r 25 (fun i env' w' => env' 0 = v ∧ env' 3 = .int .i64 (bestF l i).1 ∧ env' 4 = .int .i64 ((i + 1 : Nat) : Int) ∧ w' = w) ?_ ?_ ?_
  · simp [bestF]
  · rintro i env w hi ⟨e0, e3, e4, rfl⟩
    simp [e4]
    refine ite_r (t := true) (by simp; omega) (fun _ => ?_) (fun h => by cases h)
    simp [wp_blk]
    refine callp (sum2_c ((i + 1 : Nat) : Int) h hl) (by simp [e0, e4]) ?_
    refine callp (sum2_c ((bestF l i).1 : Int) h hl) (by simp [e0, e3]) ?_
    have hs := bestF_sum l i
    rw [← hs]
    simp [-Int.natCast_add]
    by_cases hlt : sumI ((i + 1 : Nat) : Int) l < (bestF l i).2
    · refine ite_r (t := true) (by simp [hlt, -Int.natCast_add]) (fun _ => ?_) (fun h => by cases h)
      simp (disch := omega) [wI, wU, tmod_nn, tdiv_nn, env0_0, env0_1, env0_2, env0_3, env0_4, env0_5, -env0_apply, e0, e3, e4, bestF]
      rw [if_pos (by simpa using hlt)]
      simp
    · refine ite_r (t := false) (by simp [-Int.natCast_add]; omega) (fun h => by cases h) (fun _ => ?_)
      simp (disch := omega) [wI, wU, tmod_nn, tdiv_nn, env0_0, env0_1, env0_2, env0_3, env0_4, env0_5, -env0_apply, e0, e3, e4, bestF]
      rw [if_neg (by simpa using hlt)]
  · rintro env w ⟨e0, e3, e4, rfl⟩
    simp [e4]
    refine ite_r (t := false) (by simp) (fun h => by cases h) (fun _ => ?_)
    simp [e3, bestN]

end Go.Proofs.Ytajkofndbeohpaa.VG
