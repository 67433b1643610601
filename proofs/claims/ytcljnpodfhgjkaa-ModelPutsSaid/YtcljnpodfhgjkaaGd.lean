/-
  Guesses: fore, back: each by the program and by the document.
-/
import Derived.Test.YtcljnpodfhgjkaaGc
namespace Go.Proofs.Ytcljnpodfhgjkaa.VG
open Go
set_option linter.unusedSimpArgs false
set_option linter.unusedVariables false
set_option maxRecDepth 20000

/-- What is guessed at a place, from a row. -/
def guessAt (l : List Int) (W : Nat) (d k : Int) (x y : Nat) : Int := oneI k (nearI l W x y).1 (nearI l W x y).2.1 (nearI l W x y).2.2.1 (nearI l W x y).2.2.2 d
def foreAt (l : List Int) (W : Nat) (d k : Int) (x y : Nat) : Int := wrapI (gi l (y * W + x) - guessAt l W d k x y) d
def rowTo (l : List Int) (W : Nat) (d k : Int) (y : Nat) : Nat → List Int
  | 0 => []
  | x + 1 => rowTo l W d k y x ++ [foreAt l W d k x y]
def foreRows (l : List Int) (W : Nat) (d : Int) (ks : List Int) : Nat → List Int
  | 0 => []
  | y + 1 => foreRows l W d ks y ++ rowTo l W d (gi ks y) y W
def foreTo (l : List Int) (W : Nat) (d : Int) (ks : List Int) : Nat → List Int
  | 0 => []
  | i + 1 => foreTo l W d ks i ++ [foreAt l W d (gi ks (i / W)) (i % W) (i / W)]
def backTo (l : List Int) (W : Nat) (d : Int) (ks : List Int) : Nat → List Int
  | 0 => []
  | i + 1 => backTo l W d ks i ++ [wrapI (gi l i + guessAt (backTo l W d ks i) W d (gi ks (i / W)) (i % W) (i / W)) d]
theorem rowTo_len (l : List Int) (W : Nat) (d k : Int) (y : Nat) : ∀ x, (rowTo l W d k y x).length = x
  | 0 => rfl
  | x + 1 => by simp [rowTo, rowTo_len l W d k y x]
theorem foreTo_len (l : List Int) (W : Nat) (d : Int) (ks : List Int) : ∀ i, (foreTo l W d ks i).length = i
  | 0 => rfl
  | i + 1 => by simp [foreTo, foreTo_len l W d ks i]
theorem backTo_len (l : List Int) (W : Nat) (d : Int) (ks : List Int) : ∀ i, (backTo l W d ks i).length = i
  | 0 => rfl
  | i + 1 => by simp [backTo, backTo_len l W d ks i]
theorem foreRows_is (l : List Int) {W : Nat} (hW : 0 < W) (d : Int) (ks : List Int) : ∀ y, foreRows l W d ks y = foreTo l W d ks (y * W)
  | 0 => by simp [foreRows, foreTo]
  | y + 1 => by
    have ih := foreRows_is l hW d ks y
    have key : ∀ x, x ≤ W → foreTo l W d ks (y * W + x) = foreTo l W d ks (y * W) ++ rowTo l W d (gi ks y) y x := by
      intro x
      induction x with
      | zero => intro _; simp [rowTo]
      | succ x ihx =>
        intro hx
        have h1 : (y * W + x) / W = y := by rw [Nat.mul_comm, Nat.mul_add_div hW, Nat.div_eq_of_lt (by omega)]; rfl
        have h2 : (y * W + x) % W = x := by rw [Nat.mul_comm, Nat.mul_add_mod, Nat.mod_eq_of_lt (by omega)]
        rw [← Nat.add_assoc, foreTo, ihx (by omega), h1, h2, rowTo, List.append_assoc]
    rw [foreRows, ih, Nat.succ_mul, key W (Nat.le_refl _)]
def foreS (l : List Int) (w h d : Int) (ks : List Int) : List Int × Int := if planeB l w h d = true ∧ kindsB ks h = true then (foreTo l w.toNat d ks l.length, 0) else ([], 1)
def backS (l : List Int) (w h d : Int) (ks : List Int) : List Int × Int := if planeB l w h d = true ∧ kindsB ks h = true then (backTo l w.toNat d ks l.length, 0) else ([], 1)

/-- What is guessed is small. -/
theorem near3_is (g w n a : Int) : near3 g w n a = w ∨ near3 g w n a = n ∨ near3 g w n a = a := by
  unfold near3
  split
  · exact .inl rfl
  · split
    · exact .inr (.inl rfl)
    · exact .inr (.inr rfl)
theorem mn_is (a b : Int) : mnI a b ≤ a ∧ mnI a b ≤ b ∧ (mnI a b = a ∨ mnI a b = b) := by unfold mnI; split <;> omega
theorem mx_is (a b : Int) : a ≤ mxI a b ∧ b ≤ mxI a b ∧ (mxI a b = a ∨ mxI a b = b) := by unfold mxI; split <;> omega
theorem one_in {k w n a b d : Int} (hd : dep d = true) (hall : ([w, n, a, b] : List Int).all (inD d) = true) : 0 ≤ oneI k w n a b d ∧ oneI k w n a b d < p2 d := by
  have hp := p2_bd (dep_iff.1 hd).2
  have h4 := all4.1 hall
  have h3 := near3_is (w + n - a) w n a
  have m1 := mn_is w n
  have m2 := mx_is w n
  have m3 := mn_is (mxI w n) (w + n - a)
  have m4 := mx_is (mnI w n) (mnI (mxI w n) (w + n - a))
  have m5 := mx_is (w + n - a) 0
  have m6 := mn_is (mxI (w + n - a) 0) (p2 d - 1)
  unfold oneI
  generalize near3 (w + n - a) w n a = r3 at *
  generalize mxI (mnI w n) (mnI (mxI w n) (w + n - a)) = r7 at *
  generalize mnI (mxI (w + n - a) 0) (p2 d - 1) = r8 at *
  generalize mxI (w + n - a) 0 = q1 at *
  generalize mnI (mxI w n) (w + n - a) = q2 at *
  generalize mxI w n = q3 at *
  generalize mnI w n = q4 at *
  by_cases hk : (0 ≤ k ∧ k ≤ 9) ∧ dep d = true ∧ ([w, n, a, b] : List Int).all (inD d) = true
  · rw [if_pos hk]
    by_cases k1 : k = 1
    · rw [if_pos k1]; omega
    rw [if_neg k1]
    by_cases k2 : k = 2
    · rw [if_pos k2]; omega
    rw [if_neg k2]
    by_cases k3 : k = 3
    · rw [if_pos k3]; omega
    rw [if_neg k3]
    by_cases k4 : k = 4
    · rw [if_pos k4]; omega
    rw [if_neg k4]
    by_cases k5 : k = 5
    · rw [if_pos k5]; omega
    rw [if_neg k5]
    by_cases k6 : k = 6
    · rw [if_pos k6]; omega
    rw [if_neg k6]
    by_cases k7 : k = 7
    · rw [if_pos k7]; omega
    rw [if_neg k7]
    by_cases k8 : k = 8
    · rw [if_pos k8]; omega
    rw [if_neg k8]
    by_cases k9 : k = 9
    · rw [if_pos k9]; omega
    rw [if_neg k9]; omega
  · rw [if_neg hk]; omega
theorem one_bd (k w n a b d : Int) : 0 ≤ oneI k w n a b d ∧ oneI k w n a b d ≤ 65535 := by
  by_cases h : (0 ≤ k ∧ k ≤ 9) ∧ dep d = true ∧ ([w, n, a, b] : List Int).all (inD d) = true
  · have := one_in (k := k) h.2.1 h.2.2
    have hp := p2_bd (dep_iff.1 h.2.1).2
    omega
  · rw [oneI, if_neg h]; omega
/-- Only what comes ahead counts. -/
theorem near_app (p q : List Int) (W x y : Nat) (h : y * W + x ≤ p.length) : nearI (p ++ q) W x y = nearI p W x y := by
  unfold nearI
  have e : (y : Int) * (W : Int) = ((y * W : Nat) : Int) := by rw [Int.natCast_mul]
  have hW : 0 < y → W ≤ y * W := fun h => Nat.le_mul_of_pos_left W h
  have hy0 : y = 0 → y * W = 0 := fun h => by rw [h, Nat.zero_mul]
  by_cases hr : ((1 ≤ (W : Int) ∧ (W : Int) ≤ 64) ∧ (0 ≤ (x : Int) ∧ (x : Int) < W) ∧ 0 ≤ (y : Int) ∧ (y : Int) < 64)
  rotate_left
  · rw [if_neg (fun h => hr h.1), if_neg (fun h => hr h.1)]
  have c1 : ((1 ≤ (W : Int) ∧ (W : Int) ≤ 64) ∧ (0 ≤ (x : Int) ∧ (x : Int) < W) ∧ 0 ≤ (y : Int) ∧ (y : Int) < 64) ∧ (y : Int) * W + x ≤ (p ++ q).length := ⟨hr, by rw [e]; simp; omega⟩
  have c2 : ((1 ≤ (W : Int) ∧ (W : Int) ≤ 64) ∧ (0 ≤ (x : Int) ∧ (x : Int) < W) ∧ 0 ≤ (y : Int) ∧ (y : Int) < 64) ∧ (y : Int) * W + x ≤ p.length := ⟨hr, by rw [e]; omega⟩
  rw [if_pos c1, if_pos c2, e]
  generalize hM : y * W = M at *
  have hg : ∀ i : Int, 0 ≤ i → i < (M : Int) + x → gi (p ++ q) i.toNat = gi p i.toNat := fun i h0 h1 => gi_app_left p q _ (by omega)
  by_cases hy : (y : Int) = 0
  · rw [if_pos hy, if_pos hy]
    by_cases hx : (x : Int) = 0
    · rw [if_pos hx, if_pos hx]
    · rw [if_neg hx, if_neg hx, hg _ (by omega) (by omega)]
  · have hW1 := hW (by omega)
    rw [if_neg hy, if_neg hy, hg ((M : Int) + x - W) (by omega) (by omega)]
    by_cases hx : 0 < (x : Int)
    · rw [if_pos hx, if_pos hx, if_pos hx, if_pos hx, hg ((M : Int) + x - 1) (by omega) (by omega), hg ((M : Int) + x - W - 1) (by omega) (by omega)]
      by_cases hx2 : (x : Int) < W - 1
      · rw [if_pos hx2, if_pos hx2, hg ((M : Int) + x - W + 1) (by omega) (by omega)]
      · rw [if_neg hx2, if_neg hx2]
    · rw [if_neg hx, if_neg hx, if_neg hx, if_neg hx]
      by_cases hx2 : (x : Int) < W - 1
      · rw [if_pos hx2, if_pos hx2, hg ((M : Int) + x - W + 1) (by omega) (by omega)]
      · rw [if_neg hx2, if_neg hx2]
theorem gi_lt {l : List Int} {d : Int} (h : l.all (inD d) = true) (i : Nat) (hi : i < l.length) : 0 ≤ gi l i ∧ gi l i < p2 d := by
  rw [List.all_eq_true] at h
  exact inD_iff.1 (h _ (gi_mem l i hi))

theorem set_fill {p : List Int} {i n : Nat} (v : Int) (hp : p.length = i) (hi : i < n) : (intsV (p ++ List.replicate (n - i) 0)).set i (.int .i64 v) = intsV (p ++ [v] ++ List.replicate (n - (i + 1)) 0) := by
  obtain ⟨m, hm⟩ : ∃ m, n - i = m + 1 := ⟨n - i - 1, by omega⟩
  rw [hm, show n - (i + 1) = m by omega, List.replicate_succ]
  subst hp
  simp [intsV, List.set_append]

theorem nn_dims {l : List Int} {w h d : Int} (hp : planeB l w h d = true) : ∃ W H' : Nat, w = W ∧ h = H' ∧ (1 ≤ W ∧ W ≤ 64) ∧ (1 ≤ H' ∧ H' ≤ 64) ∧ dep d = true ∧ l.length = W * H' ∧ l.all (inD d) = true := by
  obtain ⟨h1, h2, h3, h4, h5⟩ := planeB_iff.1 hp
  refine ⟨w.toNat, h.toNat, by omega, by omega, by omega, by omega, h3, ?_, h5⟩
  have e : w * h = ((w.toNat * h.toNat : Nat) : Int) := by rw [Int.natCast_mul]; congr 1 <;> omega
  omega

end Go.Proofs.Ytcljnpodfhgjkaa.VG
