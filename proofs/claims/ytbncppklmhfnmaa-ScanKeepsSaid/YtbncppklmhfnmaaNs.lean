/-
  Scan: what is rough keeps the passes that are there.
-/
import Derived.Test.YtbncppklmhfnmaaNr
namespace Go.Proofs.Ytbncppklmhfnmaa.VG
open Go
set_option linter.unusedSimpArgs false
set_option linter.unusedVariables false
set_option maxRecDepth 20000

theorem cover : ∀ n, n < 8 → 1 ≤ n → ∀ x, x < 8 → ∀ y, y < 8 → ((List.range n).any (fun i => passQ i x y)) = (decide (x % stX n = 0) && decide (y % stY n = 0)) := by decide +kernel
theorem st8 : ∀ n, n < 8 → 1 ≤ n → 8 % stX n = 0 ∧ 8 % stY n = 0 ∧ 0 < stX n ∧ 0 < stY n := by decide
theorem passTo_iff {W N n k : Nat} (h1 : 1 ≤ n) (h7 : n ≤ 7) (hk : k < N) : (k : Int) ∈ passTo W N n ↔ k % W % stX n = 0 ∧ k / W % stY n = 0 := by
  obtain ⟨a8, c8, _⟩ := st8 n (by omega) h1
  have hc := cover n (by omega) h1 (k % W % 8) (Nat.mod_lt _ (by omega)) (k / W % 8) (Nat.mod_lt _ (by omega))
  rw [Nat.mod_mod_of_dvd _ (Nat.dvd_of_mod_eq_zero a8), Nat.mod_mod_of_dvd _ (Nat.dvd_of_mod_eq_zero c8)] at hc
  rw [passTo_mem]
  constructor
  · rintro ⟨i, j, hi, hj, hp, e⟩
    obtain rfl : j = k := by omega
    unfold passP at hp
    rw [passQ_mod (by omega)] at hp
    have : (List.range n).any (fun i => passQ i (j % W % 8) (j / W % 8)) = true := List.any_eq_true.2 ⟨i, by simpa using hi, hp⟩
    rw [this] at hc
    simpa using hc.symm
  · intro h
    have : (decide (k % W % stX n = 0) && decide (k / W % stY n = 0)) = true := by simpa using h
    rw [this] at hc
    obtain ⟨i, hi, hp⟩ := List.any_eq_true.1 hc
    have hi' : i < n := by simpa using hi
    rw [← passQ_mod (by omega)] at hp
    exact ⟨i, k, hi', hk, hp, rfl⟩
/-- The place that shows for a place. -/
def srcP (W a c k : Nat) : Nat := (k / W - k / W % c) * W + k % W - k % W % a
theorem sub_mod_zero (x a : Nat) : (x - x % a) % a = 0 := by
  have := Nat.div_add_mod x a
  have e : x - x % a = a * (x / a) := by omega
  rw [e, Nat.mul_mod_right]
theorem srcP_at {W a c k : Nat} (hW : 1 ≤ W) : srcP W a c k / W = k / W - k / W % c ∧ srcP W a c k % W = k % W - k % W % a := by
  have hm := Nat.mod_lt k hW
  have hle := Nat.mod_le (k % W) a
  have e : srcP W a c k = (k / W - k / W % c) * W + (k % W - k % W % a) := by
    unfold srcP
    generalize (k / W - k / W % c) * W = q
    omega
  rw [e]
  exact place (by omega)
theorem srcP_lt {W H a c k : Nat} (hW : 1 ≤ W) (hk : k < W * H) : srcP W a c k < W * H := by
  have h1 : srcP W a c k ≤ k := by
    have := Nat.div_add_mod k W
    rw [Nat.mul_comm] at this
    have h2 : (k / W - k / W % c) * W ≤ k / W * W := Nat.mul_le_mul_right _ (Nat.sub_le _ _)
    unfold srcP
    generalize (k / W - k / W % c) * W = q at *
    generalize k / W * W = r at *
    generalize k % W = s at *
    omega
  omega
theorem srcP_in {W a c k : Nat} (hW : 1 ≤ W) : srcP W a c k % W % a = 0 ∧ srcP W a c k / W % c = 0 := by
  obtain ⟨h1, h2⟩ := srcP_at (a := a) (c := c) (k := k) hW
  rw [h1, h2]
  exact ⟨sub_mod_zero _ _, sub_mod_zero _ _⟩
theorem srcP_same {W a c k : Nat} (h1 : k % W % a = 0) (h2 : k / W % c = 0) : srcP W a c k = k := by
  have := Nat.div_add_mod k W
  rw [Nat.mul_comm] at this
  rw [srcP, h1, h2, Nat.sub_zero, Nat.sub_zero, this]
theorem rough_ext {z x : List Int} {W a c N : Nat} (h : ∀ k, k < N → gi z (srcP W a c k) = gi x (srcP W a c k)) : roughL z W a c N = roughL x W a c N := by
  apply gi_ext (by rw [roughL, roughL, mapTo_len, mapTo_len])
  intro k hk
  rw [roughL, mapTo_len] at hk
  rw [roughL, roughL, gi_mapTo _ _ _ hk, gi_mapTo _ _ _ hk]
  exact h k hk
theorem rough_gi {x : List Int} {W a c N k : Nat} (hk : k < N) : gi (roughL x W a c N) k = gi x (srcP W a c k) := by
  rw [roughL, gi_mapTo _ _ _ hk]
  rfl
theorem rough_twice {x : List Int} {W H a c : Nat} (hW : 1 ≤ W) : roughL (roughL x W a c (W * H)) W a c (W * H) = roughL x W a c (W * H) := by
  apply rough_ext
  intro k hk
  obtain ⟨h1, h2⟩ := srcP_in (a := a) (c := c) (k := k) hW
  rw [rough_gi (srcP_lt hW hk), srcP_same h1 h2]

/-- A plane that took the points of the first passes from x, and else is y. -/
def Took (x y z : List Int) (N : Nat) (S : Int → Prop) : Prop := z.length = N ∧ ∀ k, k < N → (S k → gi z k = gi x k) ∧ (¬ S k → gi z k = gi y k)
theorem Took.snoc {x y z : List Int} {N a : Nat} {S T : Int → Prop} (h : Took x y z N S) (ha : a < N) (hT : ∀ k : Int, T k ↔ S k ∨ k = a) : Took x y (z.set a (gi x a)) N T := by
  refine ⟨by simp [h.1], fun k hk => ?_⟩
  rw [gi_set _ _ _ _ (by rw [h.1]; exact ha)]
  by_cases e : k = a
  · subst e
    rw [if_pos rfl]
    exact ⟨fun _ => rfl, fun hn => absurd ((hT _).2 (.inr rfl)) hn⟩
  · rw [if_neg e]
    obtain ⟨h1, h2⟩ := h.2 k hk
    refine ⟨fun ht => ?_, fun hn => h2 fun hs => hn ((hT _).2 (.inl hs))⟩
    rcases (hT _).1 ht with hs | hs
    · exact h1 hs
    · omega
theorem Took.same {x y z : List Int} {N : Nat} {S T : Int → Prop} (h : Took x y z N S) (hT : ∀ k : Int, T k ↔ S k) : Took x y z N T :=
  ⟨h.1, fun k hk => ⟨fun ht => (h.2 k hk).1 ((hT _).1 ht), fun hn => (h.2 k hk).2 fun hs => hn ((hT _).2 hs)⟩⟩
def inTo (W N i j : Nat) (k : Int) : Prop := k ∈ passTo W N i ∨ k ∈ (passL i W N).take j
theorem inTo_zero {W N i : Nat} (k : Int) : inTo W N i 0 k ↔ k ∈ passTo W N i := by simp [inTo]
theorem inTo_end {W N i : Nat} (k : Int) : k ∈ passTo W N (i + 1) ↔ inTo W N i (passL i W N).length k := by
  rw [passTo, List.mem_append, inTo, List.take_length]
theorem inTo_succ {W N i j : Nat} (hj : j < (passL i W N).length) (k : Int) : inTo W N i (j + 1) k ↔ inTo W N i j k ∨ k = gi (passL i W N) j := by
  rw [inTo, inTo, gi_take_snoc _ _ hj, List.mem_append, List.mem_singleton, or_assoc]
theorem passL_gi {W N i j : Nat} (hj : j < (passL i W N).length) : ∃ k : Nat, gi (passL i W N) j = k ∧ k < N ∧ passP i W k = true := by
  obtain ⟨k, hk, hp, e⟩ := passL_mem.1 (gi_mem _ j hj)
  exact ⟨k, e.symm, hk, hp⟩
theorem rough_took {x y z : List Int} {W H n : Nat} (hW : 1 ≤ W) (h1 : 1 ≤ n) (h7 : n ≤ 7) (h : Took x y z (W * H) (fun k => k ∈ passTo W (W * H) n)) : roughL z W (stX n) (stY n) (W * H) = roughL x W (stX n) (stY n) (W * H) := by
  apply rough_ext
  intro k hk
  have hlt := srcP_lt (a := stX n) (c := stY n) hW hk
  exact (h.2 _ hlt).1 ((passTo_iff h1 h7 hlt).2 (srcP_in hW))
theorem rough_keep {x : List Int} {W H n i k : Nat} (h1 : 1 ≤ n) (h7 : n ≤ 7) (hi : i < n) (hk : k < W * H) (hp : passP i W k = true) : gi (roughL x W (stX n) (stY n) (W * H)) k = gi x k := by
  have hin : (k : Int) ∈ passTo W (W * H) n := passTo_mem.2 ⟨i, k, hi, hk, hp, rfl⟩
  obtain ⟨e1, e2⟩ := (passTo_iff h1 h7 hk).1 hin
  rw [rough_gi hk, srcP_same e1 e2]
theorem roughI_mid {x : List Int} {W H n : Nat} (hW : 1 ≤ W ∧ W ≤ 64) (hH : 1 ≤ H ∧ H ≤ 64) (hl : x.length = W * H) (h1 : 1 ≤ n) (h7 : n ≤ 7) : roughI x W H n = roughL x W (stX n) (stY n) (W * H) := by
  have hm : mayB W H = true := mayB_iff.2 ⟨by omega, by omega⟩
  unfold roughI
  have e : (min (n : Int) 7).toNat = n := by omega
  rw [if_pos ⟨hm, by rw [hl, Int.natCast_mul]⟩, if_neg (by omega), Int.toNat_natCast, e, hl]

end Go.Proofs.Ytbncppklmhfnmaa.VG
