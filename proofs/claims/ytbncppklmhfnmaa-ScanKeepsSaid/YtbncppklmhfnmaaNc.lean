/-
  Scan: orders as lists, that have each place once.
-/
import Derived.Test.YtbncppklmhfnmaaNb
namespace Go.Proofs.Ytbncppklmhfnmaa.VG
open Go
set_option linter.unusedSimpArgs false
set_option linter.unusedVariables false
set_option maxRecDepth 20000

/-- An order that has each of n places once. -/
def okP (o : List Int) (n : Nat) : Prop := o.length = n ∧ o.Nodup ∧ ∀ a ∈ o, 0 ≤ a ∧ a < n
theorem mapTo_mem {f : Nat → Int} {n : Nat} {a : Int} : a ∈ mapTo f n ↔ ∃ i, i < n ∧ f i = a := by simp [mapTo]
theorem mapTo_nodup {f : Nat → Int} {n : Nat} (h : ∀ i j, i < n → j < n → f i = f j → i = j) : (mapTo f n).Nodup := by
  induction n with
  | zero => simp [mapTo]
  | succ n ih =>
    rw [mapTo_succ, List.nodup_append]
    refine ⟨ih (fun i j hi hj => h i j (by omega) (by omega)), by simp, ?_⟩
    intro a ha b hb
    rw [mapTo_mem] at ha
    obtain ⟨i, hi, rfl⟩ := ha
    simp only [List.mem_singleton] at hb
    subst hb
    intro e
    have := h i n (by omega) (by omega) e
    omega
def idx (n : Nat) : List Int := mapTo (fun i => (i : Int)) n
theorem idx_nodup (n : Nat) : (idx n).Nodup := mapTo_nodup fun i j _ _ h => by omega
theorem idx_mem {n : Nat} {a : Int} : a ∈ idx n ↔ 0 ≤ a ∧ a < n := by
  rw [idx, mapTo_mem]
  constructor
  · rintro ⟨i, hi, rfl⟩; omega
  · intro h; exact ⟨a.toNat, by omega, by omega⟩
theorem idx_len (n : Nat) : (idx n).length = n := mapTo_len _ _
theorem okP.surj {o : List Int} {n : Nat} (h : okP o n) {a : Int} (h0 : 0 ≤ a) (h1 : a < n) : a ∈ o := by
  by_cases ha : a ∈ o
  · exact ha
  exfalso
  have hn : (a :: o).Nodup := by rw [List.nodup_cons]; exact ⟨ha, h.2.1⟩
  have hs : (a :: o) ⊆ idx n := by
    intro b hb
    rw [idx_mem]
    rcases List.mem_cons.1 hb with rfl | hb
    · exact ⟨h0, h1⟩
    · exact h.2.2 b hb
  have := hn.length_le_of_subset hs
  rw [idx_len, List.length_cons, h.1] at this
  omega
theorem okP.of {o : List Int} {n : Nat} (h1 : o.Nodup) (h2 : ∀ a ∈ o, 0 ≤ a ∧ a < n) (h3 : ∀ k, k < n → (k : Int) ∈ o) : okP o n := by
  refine ⟨?_, h1, h2⟩
  have a1 := h1.length_le_of_subset (l₂ := idx n) (fun a ha => idx_mem.2 (h2 a ha))
  have a2 := (idx_nodup n).length_le_of_subset (l₂ := o) (fun a ha => by
    have := idx_mem.1 ha
    have h := h3 a.toNat (by omega)
    rwa [Int.toNat_of_nonneg this.1] at h)
  rw [idx_len] at a1 a2
  omega
theorem rowAt_lt {W H : Nat} (hW : 1 ≤ W) (T : Bool) {i : Nat} (hi : i < W * H) : rowAt W T i / W = (i / W : Nat) ∧ rowAt W T i % W = (if T = true ∧ i / W % 2 = 1 then W - 1 - i % W else i % W : Nat) ∧ 0 ≤ rowAt W T i ∧ rowAt W T i < (W * H : Nat) := by
  have hm := Nat.mod_lt i hW
  have hx : (if T = true ∧ i / W % 2 = 1 then W - 1 - i % W else i % W) < W := by split <;> omega
  have hd : i / W < H := Nat.div_lt_of_lt_mul hi
  unfold rowAt
  generalize (if T = true ∧ i / W % 2 = 1 then W - 1 - i % W else i % W) = x at *
  obtain ⟨p1, p2⟩ := place (y := i / W) hx
  have hle : i / W * W + x < W * H := by
    have h1 : (i / W + 1) * W ≤ H * W := Nat.mul_le_mul_right _ hd
    rw [Nat.succ_mul] at h1
    rw [Nat.mul_comm W H]
    omega
  refine ⟨by rw [← Int.natCast_ediv, p1], by rw [← Int.natCast_emod, p2], by omega, by omega⟩
theorem rows_ok {W H : Nat} (hW : 1 ≤ W) (T : Bool) : okP (mapTo (rowAt W T) (W * H)) (W * H) := by
  refine ⟨mapTo_len _ _, mapTo_nodup ?_, ?_⟩
  · intro i j hi hj e
    obtain ⟨a1, a2, _⟩ := rowAt_lt hW T hi
    obtain ⟨b1, b2, _⟩ := rowAt_lt hW T hj
    rw [e] at a1 a2
    have d1 : i / W = j / W := by omega
    have m1 : (if T = true ∧ i / W % 2 = 1 then W - 1 - i % W else i % W) = (if T = true ∧ j / W % 2 = 1 then W - 1 - j % W else j % W) := by omega
    rw [← d1] at m1
    have h1 := Nat.mod_lt i hW
    have h2 := Nat.mod_lt j hW
    have m2 : i % W = j % W := by split at m1 <;> omega
    have e1 := Nat.div_add_mod i W
    have e2 := Nat.div_add_mod j W
    rw [d1, m2] at e1
    omega
  · intro a ha
    obtain ⟨i, hi, rfl⟩ := mapTo_mem.1 ha
    obtain ⟨_, _, h⟩ := rowAt_lt hW T hi
    exact h
theorem cols_ok {W H : Nat} (hW : 1 ≤ W) : okP (mapTo (colAt W H) (W * H)) (W * H) := by
  refine ⟨mapTo_len _ _, mapTo_nodup ?_, ?_⟩
  · intro i j hi hj e
    have hH : 0 < H := by rcases Nat.eq_zero_or_pos H with h | h; · subst h; simp at hi
                          · exact h
    have d1 : i / H < W := Nat.div_lt_of_lt_mul (by rw [Nat.mul_comm]; exact hi)
    have d2 : j / H < W := Nat.div_lt_of_lt_mul (by rw [Nat.mul_comm]; exact hj)
    obtain ⟨a1, a2⟩ := place (y := i % H) d1
    obtain ⟨b1, b2⟩ := place (y := j % H) d2
    unfold colAt at e
    have e' : i % H * W + i / H = j % H * W + j / H := by omega
    rw [e'] at a1 a2
    have e1 := Nat.div_add_mod i H
    have e2 := Nat.div_add_mod j H
    rw [← a1, ← a2, b1, b2] at e1
    omega
  · intro a ha
    obtain ⟨i, hi, rfl⟩ := mapTo_mem.1 ha
    have hH : 0 < H := by rcases Nat.eq_zero_or_pos H with h | h; · subst h; simp at hi
                          · exact h
    have d1 : i / H < W := Nat.div_lt_of_lt_mul (by rw [Nat.mul_comm]; exact hi)
    have m1 := Nat.mod_lt i hH
    unfold colAt
    have h1 : (i % H + 1) * W ≤ H * W := Nat.mul_le_mul_right _ m1
    rw [Nat.succ_mul, Nat.mul_comm H W] at h1
    generalize i / H = q at *
    generalize i % H = r at *
    omega
theorem diagS_mem {W H s : Nat} {a : Int} : ∀ {n : Nat}, a ∈ diagS W H s n ↔ ∃ x, x < n ∧ x ≤ s ∧ s - x < H ∧ a = (((s - x) * W + x : Nat) : Int)
  | 0 => by simp [diagS]
  | n + 1 => by
    rw [diagS, List.mem_append, diagS_mem]
    constructor
    · rintro (⟨x, h1, h2⟩ | h)
      · exact ⟨x, by omega, h2⟩
      · split at h
        · rename_i hc
          exact ⟨n, by omega, hc.1, hc.2, by simpa using h⟩
        · simp at h
    · rintro ⟨x, h1, h2, h3, h4⟩
      by_cases hx : x = n
      · subst hx
        right
        rw [if_pos ⟨h2, h3⟩, h4]
        simp
      · exact .inl ⟨x, by omega, h2, h3, h4⟩
theorem diagL_mem {W H : Nat} {a : Int} : ∀ {n : Nat}, a ∈ diagL W H n ↔ ∃ s x, s < n ∧ x < W ∧ x ≤ s ∧ s - x < H ∧ a = (((s - x) * W + x : Nat) : Int)
  | 0 => by simp [diagL]
  | n + 1 => by
    rw [diagL, List.mem_append, diagL_mem, diagS_mem]
    constructor
    · rintro (⟨s, x, h1, h2⟩ | ⟨x, h⟩)
      · exact ⟨s, x, by omega, h2⟩
      · exact ⟨n, x, by omega, h⟩
    · rintro ⟨s, x, h1, h2⟩
      by_cases hs : s = n
      · subst hs; exact .inr ⟨x, h2⟩
      · exact .inl ⟨s, x, by omega, h2⟩
theorem diagS_nodup {W H s : Nat} : ∀ {n : Nat}, n ≤ W → (diagS W H s n).Nodup
  | 0, _ => by simp [diagS]
  | n + 1, hn => by
    rw [diagS, List.nodup_append]
    refine ⟨diagS_nodup (by omega), by split <;> simp, ?_⟩
    intro a ha b hb
    obtain ⟨x, h1, h2, h3, rfl⟩ := diagS_mem.1 ha
    split at hb
    · rename_i hc
      simp only [List.mem_singleton] at hb
      subst hb
      intro e
      have p1 := (place (y := s - x) (show x < W by omega)).2
      have p2 := (place (y := s - n) (show n < W by omega)).2
      have e' : (s - x) * W + x = (s - n) * W + n := by omega
      rw [e'] at p1
      omega
    · simp at hb
theorem diagL_nodup {W H : Nat} : ∀ {n : Nat}, (diagL W H n).Nodup
  | 0 => by simp [diagL]
  | n + 1 => by
    rw [diagL, List.nodup_append]
    refine ⟨diagL_nodup, diagS_nodup (Nat.le_refl _), ?_⟩
    intro a ha b hb e
    obtain ⟨s, x, h1, h2, h3, h4, h5⟩ := diagL_mem.1 ha
    obtain ⟨x', k1, k2, k3, k4⟩ := diagS_mem.1 hb
    have e' : (s - x) * W + x = (n - x') * W + x' := by omega
    have p1 := place (y := s - x) h2
    have p2 := place (y := n - x') k1
    rw [e'] at p1
    omega
theorem diags_ok {W H : Nat} (hW : 1 ≤ W) : okP (diagL W H (W + H - 1)) (W * H) := by
  refine okP.of diagL_nodup ?_ ?_
  · intro a ha
    obtain ⟨s, x, h1, h2, h3, h4, rfl⟩ := diagL_mem.1 ha
    have h1 : (s - x + 1) * W ≤ H * W := Nat.mul_le_mul_right _ h4
    rw [Nat.succ_mul, Nat.mul_comm H W] at h1
    omega
  · intro k hk
    rw [diagL_mem]
    have hm := Nat.mod_lt k hW
    have hd : k / W < H := Nat.div_lt_of_lt_mul hk
    have e1 := Nat.div_add_mod k W
    rw [Nat.mul_comm] at e1
    generalize k / W = q at *
    generalize k % W = r at *
    refine ⟨q + r, r, by omega, hm, by omega, by omega, ?_⟩
    rw [Nat.add_sub_cancel, e1]
/-- The places below n that p has, each as f tells it. -/
def pik (p : Nat → Bool) (f : Nat → Nat) : Nat → List Int
  | 0 => []
  | n + 1 => pik p f n ++ (if p n = true then [(f n : Int)] else [])
theorem pik_len (p : Nat → Bool) (f : Nat → Nat) : ∀ n, (pik p f n).length ≤ n
  | 0 => by simp [pik]
  | n + 1 => by
    have := pik_len p f n
    rw [pik, List.length_append]
    split <;> simp <;> omega
theorem pik_mem {p : Nat → Bool} {f : Nat → Nat} {a : Int} : ∀ {n : Nat}, a ∈ pik p f n ↔ ∃ i, i < n ∧ p i = true ∧ (f i : Int) = a
  | 0 => by simp [pik]
  | n + 1 => by
    rw [pik, List.mem_append, pik_mem]
    constructor
    · rintro (⟨i, h1, h2⟩ | h)
      · exact ⟨i, by omega, h2⟩
      · split at h
        · rename_i hc
          exact ⟨n, by omega, hc, by simpa [eq_comm] using h⟩
        · simp at h
    · rintro ⟨i, h1, h2, h3⟩
      by_cases hi : i = n
      · subst hi
        right
        rw [if_pos h2, h3]
        simp
      · exact .inl ⟨i, by omega, h2, h3⟩
theorem pik_nodup {p : Nat → Bool} {f : Nat → Nat} : ∀ {n : Nat}, (∀ i j, i < n → j < n → p i = true → p j = true → f i = f j → i = j) → (pik p f n).Nodup
  | 0, _ => by simp [pik]
  | n + 1, h => by
    rw [pik, List.nodup_append]
    refine ⟨pik_nodup fun i j hi hj => h i j (by omega) (by omega), by split <;> simp, ?_⟩
    intro a ha b hb e
    obtain ⟨i, h1, h2, h3⟩ := pik_mem.1 ha
    split at hb
    · rename_i hc
      simp only [List.mem_singleton] at hb
      have := h i n (by omega) (by omega) h2 hc (by omega)
      omega
    · simp at hb
theorem pik_yes {p : Nat → Bool} {f : Nat → Nat} {n : Nat} (h : p n = true) : pik p f (n + 1) = pik p f n ++ [(f n : Int)] := by rw [pik, if_pos h]
theorem pik_no {p : Nat → Bool} {f : Nat → Nat} {n : Nat} (h : p n = false) : pik p f (n + 1) = pik p f n := by rw [pik, if_neg (by simp [h]), List.append_nil]
theorem pik_skip {p : Nat → Bool} {f : Nat → Nat} {n : Nat} : ∀ {m : Nat}, n ≤ m → (∀ i, n ≤ i → i < m → p i = false) → pik p f m = pik p f n
  | 0, h, _ => by rw [Nat.le_zero.1 h]
  | m + 1, h, hp => by
    by_cases hm : n = m + 1
    · rw [hm]
    · rw [pik_no (hp m (by omega) (by omega))]
      exact pik_skip (by omega) fun i h1 h2 => hp i h1 (by omega)

/-! The digits of y and x by turns. -/
def dxT (n : Nat) : Nat → Nat
  | 0 => 0
  | i + 1 => dxT n i ||| (n / 2 ^ (2 * i) % 2 * 2 ^ i)
def dyT (n : Nat) : Nat → Nat
  | 0 => 0
  | i + 1 => dyT n i ||| (n / 2 ^ (2 * i + 1) % 2 * 2 ^ i)
def turnsT (x y : Nat) : Nat → Nat
  | 0 => 0
  | k + 1 => turnsT x y k * 4 ||| (y / 2 ^ (5 - k) % 2 * 2) ||| (x / 2 ^ (5 - k) % 2)
theorem dxT_lt (n : Nat) : ∀ i, dxT n i < 2 ^ i
  | 0 => by simp [dxT]
  | i + 1 => by
    have h2 := Nat.mod_lt (n / 2 ^ (2 * i)) (show 2 > 0 by omega)
    refine Nat.or_lt_two_pow (Nat.lt_trans (dxT_lt n i) (Nat.pow_lt_pow_right (by omega) (by omega))) ?_
    rw [Nat.pow_succ, Nat.mul_comm]
    exact Nat.mul_lt_mul_of_pos_left h2 (Nat.pow_pos (by omega))
theorem dyT_lt (n : Nat) : ∀ i, dyT n i < 2 ^ i
  | 0 => by simp [dyT]
  | i + 1 => by
    have h2 := Nat.mod_lt (n / 2 ^ (2 * i + 1)) (show 2 > 0 by omega)
    refine Nat.or_lt_two_pow (Nat.lt_trans (dyT_lt n i) (Nat.pow_lt_pow_right (by omega) (by omega))) ?_
    rw [Nat.pow_succ, Nat.mul_comm]
    exact Nat.mul_lt_mul_of_pos_left h2 (Nat.pow_pos (by omega))
theorem turnsT_lt (x y : Nat) : ∀ i, turnsT x y i < 4 ^ i
  | 0 => by simp [turnsT]
  | i + 1 => by
    have h2 := Nat.mod_lt (x / 2 ^ (5 - i)) (show 2 > 0 by omega)
    have h3 := Nat.mod_lt (y / 2 ^ (5 - i)) (show 2 > 0 by omega)
    have h4 := turnsT_lt x y i
    have e : 4 ^ (i + 1) = 2 ^ (2 * (i + 1)) := by rw [Nat.pow_mul]
    have e' : 4 ^ (i + 1) = 4 ^ i * 4 := Nat.pow_succ ..
    have hp : 1 ≤ 4 ^ i := Nat.pow_pos (by omega)
    rw [turnsT, e]
    refine Nat.or_lt_two_pow (Nat.or_lt_two_pow ?_ ?_) ?_ <;> rw [← e, e'] <;> omega
theorem dec_enc' : ∀ a, a < 64 → ∀ b, b < 64 → turnsT (dxT (a * 64 + b) 6) (dyT (a * 64 + b) 6) 6 = a * 64 + b := by decide +kernel
theorem dec_enc (n : Nat) (h : n < 4096) : turnsT (dxT n 6) (dyT n 6) 6 = n := by
  have := dec_enc' (n / 64) (by omega) (n % 64) (by omega)
  rwa [show n / 64 * 64 + n % 64 = n by omega] at this
theorem enc_dec : ∀ x, x < 64 → ∀ y, y < 64 → dxT (turnsT x y 6) 6 = x ∧ dyT (turnsT x y 6) 6 = y := by decide +kernel
def inP (W H n : Nat) : Bool := decide (dxT n 6 < W) && decide (dyT n 6 < H)
def digL (W H : Nat) (n : Nat) : List Int := pik (inP W H) (fun n => dyT n 6 * W + dxT n 6) n
theorem digs_ok {W H : Nat} (hW : 1 ≤ W ∧ W ≤ 64) (hH : H ≤ 64) : okP (digL W H 4096) (W * H) := by
  refine okP.of (pik_nodup ?_) ?_ ?_
  · intro i j hi hj h1 h2 h
    simp only [inP, Bool.and_eq_true, decide_eq_true_eq] at h1 h2
    have p1 := place (y := dyT i 6) h1.1
    have p2 := place (y := dyT j 6) h2.1
    have e1 : dyT i 6 * W + dxT i 6 = dyT j 6 * W + dxT j 6 := h
    rw [e1] at p1
    rw [← dec_enc i hi, ← dec_enc j hj, ← p1.1, ← p1.2, p2.1, p2.2]
  · intro a ha
    obtain ⟨i, hi, h, rfl⟩ := pik_mem.1 ha
    simp only [inP, Bool.and_eq_true, decide_eq_true_eq] at h
    have h1 : (dyT i 6 + 1) * W ≤ H * W := Nat.mul_le_mul_right _ h.2
    rw [Nat.succ_mul, Nat.mul_comm H W] at h1
    omega
  · intro k hk
    have hm := Nat.mod_lt k hW.1
    have hd : k / W < H := Nat.div_lt_of_lt_mul hk
    obtain ⟨e1, e2⟩ := enc_dec (k % W) (by omega) (k / W) (Nat.lt_of_lt_of_le hd hH)
    refine pik_mem.2 ⟨turnsT (k % W) (k / W) 6, turnsT_lt _ _ 6, ?_, ?_⟩
    · simp only [inP, e1, e2, hm, hd, decide_true, Bool.and_self]
    · simp only [e1, e2]
      have := Nat.div_add_mod k W
      rw [Nat.mul_comm] at this
      rw [this]

/-! The passes. -/
def pA (i : Nat) : Nat := [8, 8, 4, 4, 2, 2, 1].getD i 1
def pB (i : Nat) : Nat := [0, 4, 0, 2, 0, 1, 0].getD i 0
def pC (i : Nat) : Nat := [8, 8, 8, 4, 4, 2, 2].getD i 1
def pD (i : Nat) : Nat := [0, 0, 4, 0, 2, 0, 1].getD i 0
def passQ (i x y : Nat) : Bool := decide (x % pA i = pB i) && decide (y % pC i = pD i)
def passP (i W at' : Nat) : Bool := passQ i (at' % W) (at' / W)
def passL (i W n : Nat) : List Int := pik (passP i W) (fun n => n) n
def passTo (W n : Nat) : Nat → List Int
  | 0 => []
  | k + 1 => passTo W n k ++ passL k W n
theorem pAC : ∀ i, i < 7 → 8 % pA i = 0 ∧ 8 % pC i = 0 ∧ pB i < pA i ∧ pD i < pC i ∧ pA i ≤ 8 ∧ pC i ≤ 8 := by decide
theorem passQ_mod {i : Nat} (hi : i < 7) (x y : Nat) : passQ i x y = passQ i (x % 8) (y % 8) := by
  obtain ⟨h1, h2, _⟩ := pAC i hi
  unfold passQ
  rw [Nat.mod_mod_of_dvd _ (Nat.dvd_of_mod_eq_zero h1), Nat.mod_mod_of_dvd _ (Nat.dvd_of_mod_eq_zero h2)]
theorem passQ_one : ∀ i, i < 7 → ∀ j, j < 7 → ∀ x, x < 8 → ∀ y, y < 8 → (passQ i x y && passQ j x y) = true → i = j := by decide +kernel
theorem passQ_all : ∀ x, x < 8 → ∀ y, y < 8 → ∃ i, i < 7 ∧ passQ i x y = true := by decide +kernel
theorem passL_mem {i W n : Nat} {a : Int} : a ∈ passL i W n ↔ ∃ k, k < n ∧ passP i W k = true ∧ (k : Int) = a := pik_mem
theorem passTo_mem {W n : Nat} {a : Int} : ∀ {k : Nat}, a ∈ passTo W n k ↔ ∃ i j, i < k ∧ j < n ∧ passP i W j = true ∧ (j : Int) = a
  | 0 => by simp [passTo]
  | k + 1 => by
    rw [passTo, List.mem_append, passTo_mem, passL_mem]
    constructor
    · rintro (⟨i, j, h1, h2⟩ | ⟨j, h⟩)
      · exact ⟨i, j, by omega, h2⟩
      · exact ⟨k, j, by omega, h⟩
    · rintro ⟨i, j, h1, h2⟩
      by_cases hi : i = k
      · subst hi; exact .inr ⟨j, h2⟩
      · exact .inl ⟨i, j, by omega, h2⟩
theorem pass_one {i j W k : Nat} (hi : i < 7) (hj : j < 7) (h : passP i W k = true) (h' : passP j W k = true) : i = j := by
  unfold passP at h h'
  rw [passQ_mod hi] at h
  rw [passQ_mod hj] at h'
  exact passQ_one i hi j hj _ (Nat.mod_lt _ (by omega)) _ (Nat.mod_lt _ (by omega)) (by rw [h, h']; rfl)
theorem passTo_nodup {W n : Nat} : ∀ {k : Nat}, k ≤ 7 → (passTo W n k).Nodup
  | 0, _ => by simp [passTo]
  | k + 1, hk => by
    rw [passTo, List.nodup_append]
    refine ⟨passTo_nodup (by omega), pik_nodup fun i j _ _ _ _ h => h, ?_⟩
    intro a ha b hb e
    obtain ⟨i, j, h1, h2, h3, h4⟩ := passTo_mem.1 ha
    obtain ⟨j', k1, k2, k3⟩ := passL_mem.1 hb
    obtain rfl : j = j' := by omega
    have := pass_one (by omega) (by omega) h3 k2
    omega
theorem passes_ok {W n : Nat} : okP (passTo W n 7) n := by
  refine okP.of (passTo_nodup (Nat.le_refl _)) ?_ ?_
  · intro a ha
    obtain ⟨i, j, h1, h2, h3, rfl⟩ := passTo_mem.1 ha
    omega
  · intro k hk
    obtain ⟨i, hi, h⟩ := passQ_all (k % W % 8) (Nat.mod_lt _ (by omega)) (k / W % 8) (Nat.mod_lt _ (by omega))
    exact passTo_mem.2 ⟨i, k, hi, hk, by unfold passP; rw [passQ_mod hi]; exact h, rfl⟩
theorem mod_skip {c d j t : Nat} (hd : d < c) (h0 : 0 < t) (h1 : t < c) : (d + j * c + t) % c ≠ d := by
  have e : d + j * c + t = (d + t) + j * c := by omega
  rw [e, Nat.add_mul_mod_self_right]
  rcases Nat.lt_or_ge (d + t) c with h | h
  · rw [Nat.mod_eq_of_lt h]; omega
  · rw [Nat.mod_eq_sub_mod h, Nat.mod_eq_of_lt (by omega)]; omega
/-- A row of a pass begins, and goes on. -/
theorem pass_row {i W H y y' : Nat} (hW : 1 ≤ W) (h : ∀ r, y ≤ r → r < y' → r < H → r % pC i ≠ pD i) (hy : y ≤ y') : passL i W (min y' H * W) = passL i W (min y H * W) := by
  refine pik_skip (Nat.mul_le_mul_right _ (by omega)) fun k h1 h2 => ?_
  have hk : min y H ≤ k / W := by rw [Nat.le_div_iff_mul_le (by omega)]; exact h1
  have hk' : k / W < min y' H := by rw [Nat.div_lt_iff_lt_mul (by omega)]; exact h2
  generalize hr : k / W = r at *
  have := h r (by omega) (by omega) (by omega)
  simp [passP, passQ, hr, this]
theorem pass_col {i W y x x' : Nat} (hW : 1 ≤ W) (h : ∀ r, x ≤ r → r < x' → r < W → r % pA i ≠ pB i) (hx : x ≤ x') : passL i W (y * W + min x' W) = passL i W (y * W + min x W) := by
  refine pik_skip (by omega) fun k h1 h2 => ?_
  have hk : k = y * W + (k - y * W) := by omega
  obtain ⟨p1, p2⟩ := place (W := W) (y := y) (i := k - y * W) (by omega)
  rw [← hk] at p2
  have := h (k - y * W) (by omega) (by omega) (by omega)
  simp [passP, passQ, p2, this]
theorem pass_pt {i W y x : Nat} (hx : x < W) (h1 : x % pA i = pB i) (h2 : y % pC i = pD i) : passL i W (y * W + x + 1) = passL i W (y * W + x) ++ [((y * W + x : Nat) : Int)] := by
  obtain ⟨p1, p2⟩ := place (y := y) hx
  exact pik_yes (by simp [passP, passQ, p1, p2, h1, h2])

end Go.Proofs.Ytbncppklmhfnmaa.VG
