/-
  What laws are made of: numbers brought into bounds, a tape of numbers, samples of so many bits.
-/
import Derived.Test.YtfanamibkgkaiaaDoorCm
import Derived.Test.YtfanamibkgkaiaaDoorBw
import Derived.Test.YtfanamibkgkaiaaDoorBg
import Derived.Test.YtfanamibkgkaiaaDoorSi
namespace Go.Proofs.YtfanamibkgkaiaaDoor.VG
open Go
set_option linter.unusedSimpArgs false
set_option linter.unusedVariables false
set_option maxRecDepth 20000

def p2 (d : Int) : Int := ((2 ^ d.toNat : Nat) : Int)
theorem p2_bd {d : Int} (h : d ≤ 16) : 1 ≤ p2 d ∧ p2 d ≤ 65536 := by
  have h1 : 2 ^ d.toNat ≤ 2 ^ 16 := Nat.pow_le_pow_right (by omega) (by omega)
  have h2 := Nat.two_pow_pos d.toNat
  unfold p2; omega
theorem shl_p2 {d : Int} (h0 : 0 ≤ d) (h : d ≤ 62) : shl .i64 1 d = p2 d := by
  obtain ⟨D, rfl⟩ : ∃ D : Nat, d = D := ⟨d.toNat, by omega⟩
  have h1 : 2 ^ D ≤ 2 ^ 62 := Nat.pow_le_pow_right (by omega) (by omega)
  have h2 := Nat.two_pow_pos D
  rw [shl_int _ _ _ (by simp only [IntKind.bits]; omega), Int.one_mul]
  unfold p2
  rw [Int.toNat_natCast]
  exact wI (by omega) (by omega)
theorem p2_two {d : Int} (h : 1 ≤ d) : p2 d = 2 * p2 (d - 1) := by
  obtain ⟨D, rfl⟩ : ∃ D : Nat, d = ((D + 1 : Nat) : Int) := ⟨(d - 1).toNat, by omega⟩
  unfold p2
  rw [show (((D + 1 : Nat) : Int) - 1).toNat = D by omega, Int.toNat_natCast, Nat.pow_succ]
  omega
theorem and_p2 (v : Int) {d : Int} (h0 : 0 ≤ d) (h : d ≤ 16) : bitw .and .i64 v (p2 d - 1) = v % p2 d := by
  have h1 := p2_bd h
  have := and_m v d.toNat (by omega)
  have e : p2 d - 1 = ((2 ^ d.toNat - 1 : Nat) : Int) := by unfold p2 at *; omega
  rw [e, this]; rfl
theorem mod_bd (v : Int) {d : Int} (h : d ≤ 16) : 0 ≤ v % p2 d ∧ v % p2 d < p2 d := by
  have h1 := p2_bd h
  exact ⟨Int.emod_nonneg _ (by omega), Int.emod_lt_of_pos _ (by omega)⟩
def dep (d : Int) : Bool := decide (1 ≤ d) && decide (d ≤ 16)
theorem dep_iff {d : Int} : dep d = true ↔ 1 ≤ d ∧ d ≤ 16 := by simp [dep]
def wrapI (v d : Int) : Int := if dep d = true then v % p2 d else 0
def foldI (v d : Int) : Int := if dep d = true then (if p2 (d - 1) ≤ v % p2 d then v % p2 d - p2 d else v % p2 d) else 0
theorem wrap_bd (v : Int) {d : Int} (h : dep d = true) : 0 ≤ wrapI v d ∧ wrapI v d < p2 d := by
  rw [wrapI, if_pos h]; exact mod_bd v (dep_iff.1 h).2

theorem side2_c {w : World} (d : Int) : Calls Tryd.prog 24 [.int .i64 d].toArray w (Ret fun r w' => r = .bool (decide (1 ≤ d) && decide (d ≤ 64)) ∧ w' = w) := by
  refine F_sound c24 (by simp [fc24]) ?_
  simp [fc24, s24]
def withI (n lo hi : Int) : Int := if lo ≤ n ∧ n ≤ hi then n else lo + n % (hi - lo + 1)
theorem with_bd {n lo hi : Int} (h : lo ≤ hi) : lo ≤ withI n lo hi ∧ withI n lo hi ≤ hi := by
  unfold withI
  split
  · assumption
  · have h1 := Int.emod_nonneg n (show hi - lo + 1 ≠ 0 by omega)
    have h2 := Int.emod_lt_of_pos n (show 0 < hi - lo + 1 by omega)
    omega
theorem tmod_up {n m : Int} (hm : 0 < m) : (if n.tmod m < 0 then n.tmod m + m else n.tmod m) = n % m := by
  have h1 := Int.emod_nonneg n (show m ≠ 0 by omega)
  have h2 := Int.emod_lt_of_pos n hm
  rw [Int.tmod_eq_emod]
  split <;> split <;> omega
theorem tmod_bd {n m : Int} (hm : 0 < m) : -m < n.tmod m ∧ n.tmod m < m := by
  have h1 := Int.emod_nonneg n (show m ≠ 0 by omega)
  have h2 := Int.emod_lt_of_pos n hm
  rw [Int.tmod_eq_emod]
  split <;> omega

theorem within_c {w : World} (n lo hi : Int) (h : lo ≤ hi) (h1 : -1099511627776 ≤ lo) (h2 : hi ≤ 1099511627776) : Calls Tryd.prog 7 [.int .i64 n, .int .i64 lo, .int .i64 hi].toArray w (Ret fun r w' => r = .int .i64 (withI n lo hi) ∧ w' = w) := by
  refine F_sound c7 (by simp [fc7]) ?_
  have w1 : IntKind.i64.wrap (hi - lo) = hi - lo := wI (by omega) (by omega)
  have w2 : IntKind.i64.wrap (hi - lo + 1) = hi - lo + 1 := wI (by omega) (by omega)
  have hm : 0 < hi - lo + 1 := by omega
  have hb := tmod_bd (n := n) hm
  have hu := tmod_up (n := n) hm
  simp [fc7, s7]
  by_cases hin : lo ≤ n ∧ n ≤ hi
  · refine ite_r (t := true) (by simp; omega) (fun _ => ?_) (fun h => by cases h)
    simp [withI, hin]
  have e : withI n lo hi = lo + n % (hi - lo + 1) := by rw [withI, if_neg hin]
  refine ite_r (t := false) (by simp; omega) (fun h => by cases h) (fun _ => ?_)
  simp [w1, w2]
  refine ⟨by omega, ?_⟩
  rw [e]
  generalize n.tmod (hi - lo + 1) = u at *
  generalize n % (hi - lo + 1) = q at *
  by_cases hu0 : u < 0
  · rw [if_pos hu0] at hu
    refine ite_r (t := true) (by simp [hu0]) (fun _ => ?_) (fun h => by cases h)
    have w3 : IntKind.i64.wrap (u + hi) = u + hi := wI (by omega) (by omega)
    have w4 : IntKind.i64.wrap (u + hi - lo) = u + hi - lo := wI (by omega) (by omega)
    have w5 : IntKind.i64.wrap (u + hi - lo + 1) = u + hi - lo + 1 := wI (by omega) (by omega)
    have w6 : IntKind.i64.wrap (lo + (u + hi - lo + 1)) = lo + (u + hi - lo + 1) := wI (by omega) (by omega)
    simp [w3, w4, w5, w6]
    omega
  · rw [if_neg hu0] at hu
    refine ite_r (t := false) (by simp; omega) (fun h => by cases h) (fun _ => ?_)
    have w6 : IntKind.i64.wrap (lo + u) = lo + u := wI (by omega) (by omega)
    simp [w6]
    omega

theorem ints_c {F G : Nat → Prop} {w : World} {u v : Value} {l m : List Int} (h : Rd F w u l.length (intsV l)) (k : Rd G w v m.length (intsV m)) (hl : l.length ≤ maxLen) :
    Calls Tryd.prog 20 [u, v].toArray w (Ret fun r w' => r = .bool (l == m) ∧ Mod none' w w') := by
  refine F_sound c20 (by simp [fc20]) ?_
  obtain ⟨hS, hL⟩ := h.sl
  obtain ⟨kS, kL⟩ := k.sl
  unfold maxLen at hl
  simp [fc20, s20, hS, hL, kS, kL]
  by_cases hlm : l.length = m.length
  · refine ite_r (t := false) (by simp [hlm]) (fun h => by cases h) (fun _ => ?_)
    simp
    refine for_r l.length (fun i env' w' => env' 0 = u ∧ env' 1 = v ∧ env' 5 = .int .i64 i ∧ Mod none' w w' ∧ l.take i = m.take i) ?_ ?_ ?_
    · simp [Mod.refl]
    · rintro i env w' hi ⟨e0, e1, e5, hm, ha⟩
      have hc := (h.at hm).gi i hi
      have hp := h.some (by omega)
      have kc := (k.at hm).gi i (by omega)
      have kp := k.some (by omega)
      have hi' : i < m.length := by omega
      simp [e0, e5, hS, hL]
      refine ite_r (t := true) (by simp [hi]) (fun _ => ?_) (fun h => by cases h)
      simp [wp_blk, e0, e1, e5, hS, hL, hp, hc, hi, kS, kL, kp, kc, hi']
      by_cases he : gi l i = gi m i
      · refine ite_r (t := false) (by simp [he]) (fun h => by cases h) (fun _ => ?_)
        simp (disch := omega) [wI, wU, tmod_nn, tdiv_nn, env0_0, env0_1, env0_2, env0_3, env0_4, env0_5, -env0_apply, e0, e1, e5]
        exact ⟨hm.drew, by rw [gi_take_snoc l i hi, gi_take_snoc m i hi', ha, he]⟩
      · refine ite_r (t := true) (by simp [he]) (fun _ => ?_) (fun h => by cases h)
        simp
        refine ⟨?_, hm.drew⟩
        rintro rfl
        exact he rfl
    · rintro env w' ⟨e0, e1, e5, hm, ha⟩
      simp [e0, e5, hS, hL]
      refine ite_r (t := false) (by simp) (fun h => by cases h) (fun _ => ?_)
      rw [List.take_length, hlm, List.take_length] at ha
      simp [ha, hm]
  · refine ite_r (t := true) (by simp; omega) (fun _ => ?_) (fun h => by cases h)
    simp [Mod.refl]
    rintro rfl
    exact hlm rfl

theorem intsV_zeros (n : Nat) : (madeCells (Value.int .i64 0).cells (n * 1)).toList = intsV (List.replicate n 0) := by
  apply List.ext_getElem
  · simp [size_madeCells, intsV]
  · intro i h1 h2
    simp [madeCells, intsV, Value.cells, Nat.mod_one]
theorem zero64 {z : Value} (h : ∃ i, Tryd.prog.info? 3 = some i ∧ i.zero = some z) : z = .int .i64 0 := by
  obtain ⟨i, hi, hz⟩ := h
  obtain ⟨j, h3, h4⟩ : ∃ j, Tryd.prog.info? 3 = some j ∧ j.zero = some (.int .i64 0) := ⟨_, rfl, rfl⟩
  rw [h3] at hi
  cases hi
  rw [h4] at hz
  cases hz
  rfl

end Go.Proofs.YtfanamibkgkaiaaDoor.VG
