/-
  Package-merge in plain lists: rows of things, what their first ones hold (and what goes with it: parts Xa Xb).
-/
import Derived.Test.YtgjnfajdejkkjaaWa

/-! ## Package-merge in plain lists: rows of things, what their first ones hold. -/
namespace Go.Proofs.Ytgjnfajdejkkjaa.VG
open Go
set_option linter.unusedSimpArgs false
set_option linter.unusedVariables false
set_option maxRecDepth 20000

/-- A thing: how heavy, of which symbols. -/
abbrev Th := Int × List Nat
def AscT (l : List Th) : Prop := l.Pairwise fun x y => x.1 ≤ y.1
def mrgT : List Th → List Th → List Th
  | [], Y => Y
  | x :: X, [] => x :: X
  | x :: X, y :: Y => if y.1 < x.1 then y :: mrgT (x :: X) Y else x :: mrgT X (y :: Y)
  termination_by X Y => X.length + Y.length
/-- How many of the first t are the first row's. -/
def spl : List Th → List Th → Nat → Nat
  | _, _, 0 => 0
  | [], _, _ + 1 => 0
  | x :: X, [], t + 1 => spl X [] t + 1
  | x :: X, y :: Y, t + 1 => if y.1 < x.1 then spl (x :: X) Y t else spl X (y :: Y) t + 1
def pkT : List Th → List Th
  | a :: b :: r => (a.1 + b.1, a.2 ++ b.2) :: pkT r
  | _ => []
def rowT (c : List Th) : Nat → List Th
  | 0 => c
  | k + 1 => mrgT c (pkT (rowT c k))
def sumT (l : List Th) : Int := (l.map (·.1)).sum
def symT (l : List Th) : List Nat := l.flatMap (·.2)

theorem mrgT_nil (X : List Th) : mrgT X [] = X := by cases X <;> simp [mrgT]
theorem mrgT_nil' (X : List Th) : mrgT [] X = X := by simp [mrgT]
theorem mrgT_r {x y : Th} {X Y : List Th} (h : y.1 < x.1) : mrgT (x :: X) (y :: Y) = y :: mrgT (x :: X) Y := by rw [mrgT]; simp [h]
theorem mrgT_l {x y : Th} {X Y : List Th} (h : x.1 ≤ y.1) : mrgT (x :: X) (y :: Y) = x :: mrgT X (y :: Y) := by rw [mrgT]; simp [show ¬ y.1 < x.1 by omega]
theorem spl_r {x y : Th} {X Y : List Th} {t : Nat} (h : y.1 < x.1) : spl (x :: X) (y :: Y) (t + 1) = spl (x :: X) Y t := by simp [spl, h]
theorem spl_l {x y : Th} {X Y : List Th} {t : Nat} (h : x.1 ≤ y.1) : spl (x :: X) (y :: Y) (t + 1) = spl X (y :: Y) t + 1 := by simp [spl, show ¬ y.1 < x.1 by omega]
theorem spl_zero (X Y : List Th) : spl X Y 0 = 0 := by cases X <;> cases Y <;> simp [spl]
theorem spl_nil (Y : List Th) (t : Nat) : spl [] Y t = 0 := by cases t <;> simp [spl]
theorem spl_nil' : ∀ (X : List Th) (t : Nat), t ≤ X.length → spl X [] t = t
  | X, 0, _ => spl_zero _ _
  | [], t + 1, h => by simp at h
  | x :: X, t + 1, h => by rw [spl, spl_nil' X t (by simpa using h)]

theorem mrgT_len : ∀ (n : Nat) (X Y : List Th), X.length + Y.length = n → (mrgT X Y).length = n
  | _, [], Y, h => by simpa [mrgT_nil'] using h
  | _, x :: X, [], h => by simpa [mrgT_nil] using h
  | 0, x :: X, y :: Y, h => by simp at h
  | n + 1, x :: X, y :: Y, h => by
    by_cases hlt : y.1 < x.1
    · rw [mrgT_r hlt, List.length_cons, mrgT_len n (x :: X) Y (by simp at h ⊢; omega)]
    · rw [mrgT_l (by omega), List.length_cons, mrgT_len n X (y :: Y) (by simp at h ⊢; omega)]
/-- The first t of a merge: the first ones of the two. -/
theorem mrgT_take : ∀ (n : Nat) (X Y : List Th) (t : Nat), X.length + Y.length = n → t ≤ n → spl X Y t ≤ X.length ∧ spl X Y t ≤ t ∧ t - spl X Y t ≤ Y.length ∧ ((mrgT X Y).take t).Perm (X.take (spl X Y t) ++ Y.take (t - spl X Y t))
  | _, X, Y, 0, _, _ => by simp [spl_zero]
  | _, [], Y, t + 1, h, ht => by simp [spl_nil, mrgT_nil'] at *; omega
  | _, x :: X, [], t + 1, h, ht => by
    rw [spl_nil' _ _ (by simp at h ⊢; omega), mrgT_nil]
    simp at h ⊢
    omega
  | 0, x :: X, y :: Y, t + 1, h, ht => by simp at h
  | n + 1, x :: X, y :: Y, t + 1, h, ht => by
    by_cases hlt : y.1 < x.1
    · obtain ⟨a, b, c, d⟩ := mrgT_take n (x :: X) Y t (by simp at h ⊢; omega) (by omega)
      rw [spl_r hlt, mrgT_r hlt]
      refine ⟨a, by omega, by simp; omega, ?_⟩
      rw [List.take_succ_cons, show t + 1 - spl (x :: X) Y t = (t - spl (x :: X) Y t) + 1 by omega, List.take_succ_cons]
      exact (List.Perm.cons y d).trans List.perm_middle.symm
    · obtain ⟨a, b, c, d⟩ := mrgT_take n X (y :: Y) t (by simp at h ⊢; omega) (by omega)
      rw [spl_l (by omega), mrgT_l (by omega)]
      refine ⟨by simp; omega, by omega, by rw [show t + 1 - (spl X (y :: Y) t + 1) = t - spl X (y :: Y) t by omega]; exact c, ?_⟩
      rw [List.take_succ_cons, show t + 1 - (spl X (y :: Y) t + 1) = t - spl X (y :: Y) t by omega, List.take_succ_cons]
      exact List.Perm.cons x d
theorem mrgT_perm (X Y : List Th) : (mrgT X Y).Perm (X ++ Y) := by
  obtain ⟨a, b, c, d⟩ := mrgT_take _ X Y (X.length + Y.length) rfl (Nat.le_refl _)
  have h1 := mrgT_len _ X Y rfl
  rw [← h1, List.take_length] at d
  rw [h1] at d
  have ha : spl X Y (X.length + Y.length) = X.length := by omega
  rw [ha, List.take_length, Nat.add_sub_cancel_left, List.take_length] at d
  exact d
theorem mrgT_asc : ∀ (n : Nat) (X Y : List Th), X.length + Y.length = n → AscT X → AscT Y → AscT (mrgT X Y)
  | _, [], Y, _, _, h => by rwa [mrgT_nil']
  | _, x :: X, [], _, h, _ => by rwa [mrgT_nil]
  | 0, x :: X, y :: Y, h, _, _ => by simp at h
  | n + 1, x :: X, y :: Y, h, hX, hY => by
    by_cases hlt : y.1 < x.1
    · have ih := mrgT_asc n (x :: X) Y (by simp at h ⊢; omega) hX (List.pairwise_cons.1 hY).2
      rw [mrgT_r hlt]
      refine List.pairwise_cons.2 ⟨fun z hz => ?_, ih⟩
      have := (mrgT_perm (x :: X) Y).mem_iff.1 hz
      rcases List.mem_append.1 this with h1 | h1
      · rcases List.mem_cons.1 h1 with rfl | h1
        · omega
        · have := (List.pairwise_cons.1 hX).1 z h1; omega
      · exact (List.pairwise_cons.1 hY).1 z h1
    · have ih := mrgT_asc n X (y :: Y) (by simp at h ⊢; omega) (List.pairwise_cons.1 hX).2 hY
      rw [mrgT_l (by omega)]
      refine List.pairwise_cons.2 ⟨fun z hz => ?_, ih⟩
      have := (mrgT_perm X (y :: Y)).mem_iff.1 hz
      rcases List.mem_append.1 this with h1 | h1
      · exact (List.pairwise_cons.1 hX).1 z h1
      · rcases List.mem_cons.1 h1 with rfl | h1
        · omega
        · have := (List.pairwise_cons.1 hY).1 z h1; omega

theorem pkT_len : ∀ l : List Th, (pkT l).length = l.length / 2
  | [] => rfl
  | [_] => by simp [pkT]
  | a :: b :: r => by rw [pkT, List.length_cons, pkT_len r]; simp; omega
theorem pkT_take : ∀ (l : List Th) (p : Nat), (pkT l).take p = pkT (l.take (2 * p))
  | [], p => by simp [pkT]
  | [x], p => by cases p <;> simp [pkT, Nat.mul_add]
  | a :: b :: r, 0 => by simp [pkT]
  | a :: b :: r, p + 1 => by
    rw [show 2 * (p + 1) = 2 * p + 1 + 1 by omega]
    simp only [pkT, List.take_succ_cons, pkT_take r p]
theorem pkT_sum : ∀ l : List Th, l.length % 2 = 0 → sumT (pkT l) = sumT l
  | [], _ => rfl
  | [_], h => by simp at h
  | a :: b :: r, h => by
    have := pkT_sum r (by simp at h; omega)
    unfold sumT at *
    rw [pkT, List.map_cons, List.sum_cons, this]
    simp only [List.map_cons, List.sum_cons]
    omega
theorem pkT_sym : ∀ l : List Th, l.length % 2 = 0 → symT (pkT l) = symT l
  | [], _ => rfl
  | [_], h => by simp at h
  | a :: b :: r, h => by
    have := pkT_sym r (by simp at h; omega)
    unfold symT at *
    rw [pkT, List.flatMap_cons, this]
    simp
theorem pkT_mem {z : Th} : ∀ {l : List Th}, z ∈ pkT l → ∃ a ∈ l, ∃ b ∈ l, z.1 = a.1 + b.1
  | [], h => by simp [pkT] at h
  | [_], h => by simp [pkT] at h
  | a :: b :: r, h => by
    rw [pkT] at h
    rcases List.mem_cons.1 h with rfl | h
    · exact ⟨a, by simp, b, by simp, rfl⟩
    · obtain ⟨x, hx, y, hy, e⟩ := pkT_mem h
      exact ⟨x, by simp [hx], y, by simp [hy], e⟩
theorem pkT_asc : ∀ {l : List Th}, AscT l → AscT (pkT l)
  | [], _ => List.Pairwise.nil
  | [_], _ => List.Pairwise.nil
  | a :: b :: r, h => by
    have h1 := List.pairwise_cons.1 h
    have h2 := List.pairwise_cons.1 h1.2
    refine List.pairwise_cons.2 ⟨fun z hz => ?_, pkT_asc h2.2⟩
    obtain ⟨x, hx, y, hy, e⟩ := pkT_mem hz
    have := h1.1 x (by simp [hx])
    have := h2.1 y hy
    show a.1 + b.1 ≤ z.1
    omega
/-- What is packed is no heavier than the package behind it. -/
theorem pkT_last : ∀ {l : List Th}, AscT l → (∀ z ∈ l, 0 ≤ z.1) → l.length % 2 = 0 → ∀ q, (pkT l).getLast? = some q → ∀ z ∈ l, z.1 ≤ q.1
  | [], _, _, _, q, h => by simp [pkT] at h
  | [_], _, _, h, _, _ => by simp at h
  | [a, b], h, h0, _, q, hq => by
    simp [pkT] at hq
    subst hq
    have ha := h0 a (by simp)
    have hb := h0 b (by simp)
    intro z hz
    simp at hz
    rcases hz with rfl | rfl
    · show z.1 ≤ z.1 + b.1; omega
    · show z.1 ≤ a.1 + z.1; omega
  | a :: b :: x :: r, h, h0, hl, q, hq => by
    have h1 := List.pairwise_cons.1 h
    have h2 := List.pairwise_cons.1 h1.2
    have ih := pkT_last (l := x :: r) h2.2 (fun z hz => h0 z (List.mem_cons_of_mem _ (List.mem_cons_of_mem _ hz))) (by simp only [List.length_cons] at hl ⊢; omega) q (by
      rw [pkT, List.getLast?_cons] at hq
      cases r with
      | nil => simp at hl
      | cons y r =>
        rw [pkT, List.getLast?_cons] at hq ⊢
        simpa using hq)
    intro z hz
    have hx := ih x (by simp)
    rcases List.mem_cons.1 hz with rfl | hz
    · have := h1.1 x (by simp); omega
    rcases List.mem_cons.1 hz with rfl | hz
    · have := h2.1 x (by simp); omega
    · exact ih z hz

/-- Where p of the second row are taken, all of the first row that are no heavier than the last of these are taken. -/
theorem spl_ge : ∀ (n : Nat) (X Y : List Th) (t : Nat), X.length + Y.length = n → t ≤ n → ∀ (q : Th), (Y.take (t - spl X Y t)).getLast? = some q → AscT Y → ∀ j, (h : j < X.length) → X[j].1 ≤ q.1 → AscT X → j < spl X Y t
  | _, [], Y, t, _, _, _, _, _, j, h, _, _ => by simp at h
  | _, x :: X, [], t, _, _, q, hq, _, _, _, _, _ => by simp at hq
  | 0, x :: X, y :: Y, t, h, _, _, _, _, _, _, _, _ => by simp at h
  | n + 1, x :: X, y :: Y, 0, h, _, q, hq, _, _, _, _, _ => by simp at hq
  | n + 1, x :: X, y :: Y, t + 1, h, ht, q, hq, hY, j, hj, hw, hX => by
    by_cases hlt : y.1 < x.1
    · rw [spl_r hlt] at hq ⊢
      have hb := (mrgT_take n (x :: X) Y t (by simp at h ⊢; omega) (by omega)).2.1
      rw [show t + 1 - spl (x :: X) Y t = (t - spl (x :: X) Y t) + 1 by omega, List.take_succ_cons, List.getLast?_cons] at hq
      have hxj : x.1 ≤ (x :: X)[j].1 := by
        cases j with
        | zero => exact Int.le_refl _
        | succ j => exact (List.pairwise_cons.1 hX).1 _ (List.getElem_mem _)
      cases hl : (Y.take (t - spl (x :: X) Y t)).getLast? with
      | none =>
        rw [hl] at hq
        simp at hq
        subst hq
        omega
      | some z =>
        rw [hl] at hq
        simp at hq
        subst hq
        exact spl_ge n (x :: X) Y t (by simp at h ⊢; omega) (by omega) z hl (List.pairwise_cons.1 hY).2 j hj hw hX
    · rw [spl_l (by omega)] at hq ⊢
      rw [show t + 1 - (spl X (y :: Y) t + 1) = t - spl X (y :: Y) t by omega] at hq
      cases j with
      | zero => omega
      | succ j =>
        have := spl_ge n X (y :: Y) t (by simp at h ⊢; omega) (by omega) q hq hY j (by simpa using hj) (by simpa using hw) (List.pairwise_cons.1 hX).2
        omega

theorem sumT_cons (x : Th) (l : List Th) : sumT (x :: l) = x.1 + sumT l := by simp [sumT]
theorem sumT_app (l m : List Th) : sumT (l ++ m) = sumT l + sumT m := by simp [sumT]
theorem sumT_nil : sumT [] = 0 := rfl
/-- One more of a rising row costs at least its first. -/
theorem sum_more {x : Th} : ∀ {X : List Th} {t : Nat}, AscT (x :: X) → t < (x :: X).length → sumT ((x :: X).take t) + x.1 ≤ sumT ((x :: X).take (t + 1)) := by
  intro X t h ht
  rw [List.take_add_one, sumT_app, List.getElem?_eq_getElem ht]
  have : x.1 ≤ (x :: X)[t].1 := by
    cases t with
    | zero => exact Int.le_refl _
    | succ j => exact (List.pairwise_cons.1 h).1 _ (List.getElem_mem _)
  simp only [Option.toList_some, sumT_cons, sumT_nil]
  omega
/-- No other first ones of the two are lighter. -/
theorem mrgT_min : ∀ (n : Nat) (X Y : List Th) (t a p : Nat), X.length + Y.length = n → AscT X → AscT Y → a ≤ X.length → p ≤ Y.length → a + p = t → sumT ((mrgT X Y).take t) ≤ sumT (X.take a) + sumT (Y.take p)
  | _, X, Y, 0, a, p, _, _, _, _, _, e => by
    obtain rfl : a = 0 := by omega
    obtain rfl : p = 0 := by omega
    simp [sumT_nil]
  | _, [], Y, t + 1, a, p, _, _, _, ha, _, e => by
    obtain rfl : a = 0 := by simpa using ha
    rw [mrgT_nil', show p = t + 1 by omega]
    simp [sumT_nil]
  | _, x :: X, [], t + 1, a, p, _, _, _, _, hp, e => by
    obtain rfl : p = 0 := by simpa using hp
    rw [mrgT_nil, show a = t + 1 by omega]
    simp [sumT_nil]
  | 0, x :: X, y :: Y, t + 1, _, _, h, _, _, _, _, _ => by simp at h
  | n + 1, x :: X, y :: Y, t + 1, a, p, h, hX, hY, ha, hp, e => by
    by_cases hlt : y.1 < x.1
    · rw [mrgT_r hlt, List.take_succ_cons, sumT_cons]
      cases p with
      | zero =>
        obtain rfl : a = t + 1 := by omega
        have ih := mrgT_min n (x :: X) Y t t 0 (by simp at h ⊢; omega) hX (List.pairwise_cons.1 hY).2 (by omega) (by omega) (by omega)
        have := sum_more hX (t := t) (by omega)
        simp only [List.take_zero, sumT_nil] at ih ⊢
        omega
      | succ p =>
        have ih := mrgT_min n (x :: X) Y t a p (by simp at h ⊢; omega) hX (List.pairwise_cons.1 hY).2 ha (by simpa using hp) (by omega)
        rw [List.take_succ_cons, sumT_cons]
        omega
    · rw [mrgT_l (by omega), List.take_succ_cons, sumT_cons]
      cases a with
      | zero =>
        obtain rfl : p = t + 1 := by omega
        have ih := mrgT_min n X (y :: Y) t 0 t (by simp at h ⊢; omega) (List.pairwise_cons.1 hX).2 hY (by omega) (by omega) (by omega)
        have := sum_more hY (t := t) (by omega)
        simp only [List.take_zero, sumT_nil] at ih ⊢
        omega
      | succ a =>
        have ih := mrgT_min n X (y :: Y) t a p (by simp at h ⊢; omega) (List.pairwise_cons.1 hX).2 hY (by simpa using ha) hp (by omega)
        rw [List.take_succ_cons, sumT_cons]
        omega

end Go.Proofs.Ytgjnfajdejkkjaa.VG

/-! ## Package-merge: the lengths it makes are those of a full code, and none are cheaper. -/
namespace Go.Proofs.Ytgjnfajdejkkjaa.VG
open Go
set_option linter.unusedSimpArgs false
set_option linter.unusedVariables false
set_option maxRecDepth 20000

/-! ### Sums -/
def sumN (f : Nat → Nat) : Nat → Nat
  | 0 => 0
  | n + 1 => sumN f n + f n
def sumZ (f : Nat → Int) : Nat → Int
  | 0 => 0
  | n + 1 => sumZ f n + f n
theorem sumN_congr {f g : Nat → Nat} : ∀ {n : Nat}, (∀ i, i < n → f i = g i) → sumN f n = sumN g n
  | 0, _ => rfl
  | n + 1, h => by rw [sumN, sumN, sumN_congr (fun i hi => h i (by omega)), h n (by omega)]
theorem sumZ_congr {f g : Nat → Int} : ∀ {n : Nat}, (∀ i, i < n → f i = g i) → sumZ f n = sumZ g n
  | 0, _ => rfl
  | n + 1, h => by rw [sumZ, sumZ, sumZ_congr (fun i hi => h i (by omega)), h n (by omega)]
theorem sumN_split (f : Nat → Nat) (a : Nat) : ∀ b, sumN f (a + b) = sumN f a + sumN (fun i => f (a + i)) b
  | 0 => rfl
  | b + 1 => by rw [← Nat.add_assoc, sumN, sumN_split f a b, sumN, Nat.add_assoc]
theorem sumN_const (x : Nat) : ∀ n, sumN (fun _ => x) n = n * x
  | 0 => by simp [sumN]
  | n + 1 => by rw [sumN, sumN_const x n, Nat.succ_mul]
theorem sumN_add (f g : Nat → Nat) : ∀ n, sumN (fun i => f i + g i) n = sumN f n + sumN g n
  | 0 => rfl
  | n + 1 => by rw [sumN, sumN_add f g n, sumN, sumN]; omega
theorem sumZ_add (f g : Nat → Int) : ∀ n, sumZ (fun i => f i + g i) n = sumZ f n + sumZ g n
  | 0 => rfl
  | n + 1 => by rw [sumZ, sumZ_add f g n, sumZ, sumZ]; omega
theorem sumZ_zero : ∀ n, sumZ (fun _ => 0) n = 0
  | 0 => rfl
  | n + 1 => by rw [sumZ, sumZ_zero n]; rfl
theorem sumZ_le {f g : Nat → Int} : ∀ {n : Nat}, (∀ i, i < n → f i ≤ g i) → sumZ f n ≤ sumZ g n
  | 0, _ => Int.le_refl _
  | n + 1, h => by
    have := sumZ_le (fun i hi => h i (by omega) : ∀ i, i < n → f i ≤ g i)
    have := h n (by omega)
    rw [sumZ, sumZ]; omega

theorem sumT_perm {l m : List Th} (h : l.Perm m) : sumT l = sumT m := by
  induction h with
  | nil => rfl
  | cons x _ ih => rw [sumT_cons, sumT_cons, ih]
  | swap x y l => rw [sumT_cons, sumT_cons, sumT_cons, sumT_cons]; omega
  | trans _ _ i j => rw [i, j]

/-! ### What is taken of the coins, row by row -/
def cnts (c : List Th) : Nat → Nat → List Nat
  | 0, t => [t]
  | k + 1, t => spl c (pkT (rowT c k)) t :: cnts c k (2 * (t - spl c (pkT (rowT c k)) t))
def cwT (c : List Th) (a : Nat) : Int := sumT (c.take a)
def wsum : List Nat → Nat
  | [] => 0
  | a :: l => a * 2 ^ l.length + wsum l
/-- How many rows take the coin r. -/
def lnR (qs : List Nat) (r : Nat) : Nat := (qs.filter fun a => decide (r < a)).length

theorem row_len (c : List Th) (k : Nat) : (rowT c (k + 1)).length = c.length + (rowT c k).length / 2 := by rw [rowT, mrgT_len _ _ _ rfl, pkT_len]
theorem row_asc {c : List Th} (h : AscT c) : ∀ k, AscT (rowT c k)
  | 0 => h
  | k + 1 => mrgT_asc _ _ _ rfl h (pkT_asc (row_asc h k))
theorem row_nn {c : List Th} (h : ∀ z ∈ c, 0 ≤ z.1) : ∀ k, ∀ z ∈ rowT c k, 0 ≤ z.1
  | 0, z, hz => h z hz
  | k + 1, z, hz => by
    rcases List.mem_append.1 ((mrgT_perm _ _).mem_iff.1 hz) with h1 | h1
    · exact h z h1
    · obtain ⟨a, ha, b, hb, e⟩ := pkT_mem h1
      have := row_nn h k a ha
      have := row_nn h k b hb
      omega
theorem cnts_len (c : List Th) : ∀ k t, (cnts c k t).length = k + 1
  | 0, t => rfl
  | k + 1, t => by rw [cnts, List.length_cons, cnts_len c k]
theorem cnts_wsum (c : List Th) : ∀ k t, t ≤ (rowT c k).length → wsum (cnts c k t) = t * 2 ^ k
  | 0, t, _ => by simp [cnts, wsum]
  | k + 1, t, h => by
    obtain ⟨a1, a2, a3, a4⟩ := mrgT_take _ c (pkT (rowT c k)) t rfl (by rw [row_len] at h; rw [pkT_len]; exact h)
    have hp := pkT_len (rowT c k)
    rw [cnts, wsum, cnts_len, cnts_wsum c k _ (by omega), Nat.pow_succ]
    generalize spl c (pkT (rowT c k)) t = a at *
    generalize 2 ^ k = z
    obtain ⟨d, rfl⟩ : ∃ d, t = a + d := ⟨t - a, by omega⟩
    rw [Nat.add_sub_cancel_left, Nat.add_mul, Nat.mul_assoc 2, Nat.mul_left_comm 2, Nat.mul_comm 2 z]
theorem take_even (c : List Th) (k : Nat) {p : Nat} (h : 2 * p ≤ (rowT c k).length) : ((rowT c k).take (2 * p)).length % 2 = 0 := by rw [List.length_take]; omega
theorem cnts_sum (c : List Th) : ∀ k t, t ≤ (rowT c k).length → sumT ((rowT c k).take t) = ((cnts c k t).map (cwT c)).sum
  | 0, t, _ => by simp [cnts, cwT, rowT]
  | k + 1, t, h => by
    obtain ⟨a1, a2, a3, a4⟩ := mrgT_take _ c (pkT (rowT c k)) t rfl (by rw [row_len] at h; rw [pkT_len]; exact h)
    have hp := pkT_len (rowT c k)
    have e : sumT ((rowT c (k + 1)).take t) = sumT (c.take (spl c (pkT (rowT c k)) t)) + sumT ((pkT (rowT c k)).take (t - spl c (pkT (rowT c k)) t)) := by
      rw [← sumT_app]
      exact sumT_perm a4
    rw [e, pkT_take, pkT_sum _ (take_even c k (by omega)), cnts_sum c k _ (by omega), cnts, List.map_cons, List.sum_cons]
    rfl
theorem cnts_sym (c : List Th) (s : Nat) : ∀ k t, t ≤ (rowT c k).length → (symT ((rowT c k).take t)).count s = ((cnts c k t).map fun a => (symT (c.take a)).count s).sum
  | 0, t, _ => by simp [cnts, rowT]
  | k + 1, t, h => by
    obtain ⟨a1, a2, a3, a4⟩ := mrgT_take _ c (pkT (rowT c k)) t rfl (by rw [row_len] at h; rw [pkT_len]; exact h)
    have hp := pkT_len (rowT c k)
    have e : (symT ((rowT c (k + 1)).take t)).count s = (symT (c.take (spl c (pkT (rowT c k)) t))).count s + (symT ((pkT (rowT c k)).take (t - spl c (pkT (rowT c k)) t))).count s := by
      rw [← List.count_append]
      refine (List.Perm.count_eq ?_ s)
      unfold symT
      rw [← List.flatMap_append]
      exact a4.flatMap_right _
    rw [e, pkT_take, pkT_sym _ (take_even c k (by omega)), cnts_sym c s k _ (by omega), cnts, List.map_cons, List.sum_cons]

theorem cnts_head (c : List Th) : ∀ k t, t ≤ (rowT c k).length → ∃ h l, cnts c k t = h :: l ∧ h ≤ c.length ∧ ∀ j, j < h → ∀ hj : j < c.length, c[j] ∈ (rowT c k).take t
  | 0, t, ht => ⟨t, [], rfl, ht, fun j hj hl => by rw [rowT]; exact List.mem_take_iff_getElem.2 ⟨j, by omega, rfl⟩⟩
  | k + 1, t, ht => by
    obtain ⟨a1, a2, a3, a4⟩ := mrgT_take _ c (pkT (rowT c k)) t rfl (by rw [row_len] at ht; rw [pkT_len]; exact ht)
    refine ⟨_, _, rfl, a1, fun j hj hl => ?_⟩
    exact a4.mem_iff.2 (List.mem_append_left _ (List.mem_take_iff_getElem.2 ⟨j, by omega, rfl⟩))
/-- Fewer and fewer. -/
theorem cnts_desc {c : List Th} (hA : AscT c) (h0 : ∀ z ∈ c, 0 ≤ z.1) : ∀ k t, t ≤ (rowT c k).length → (cnts c k t).Pairwise (fun a b => b ≤ a) ∧ ∀ a ∈ cnts c k t, a ≤ c.length
  | 0, t, ht => ⟨by simp [cnts], fun a ha => by simp only [cnts, List.mem_singleton] at ha; subst ha; exact ht⟩
  | k + 1, t, ht => by
    obtain ⟨a1, a2, a3, a4⟩ := mrgT_take _ c (pkT (rowT c k)) t rfl (by rw [row_len] at ht; rw [pkT_len]; exact ht)
    have hp := pkT_len (rowT c k)
    have hge := fun q hq j h hw => spl_ge _ c (pkT (rowT c k)) t rfl (by rw [row_len] at ht; rw [pkT_len]; exact ht) q hq (pkT_asc (row_asc hA k)) j h hw hA
    rw [cnts]
    generalize spl c (pkT (rowT c k)) t = a at *
    have hle : 2 * (t - a) ≤ (rowT c k).length := by omega
    obtain ⟨i1, i2⟩ := cnts_desc hA h0 k (2 * (t - a)) hle
    obtain ⟨h, l, e, e1, e2⟩ := cnts_head c k (2 * (t - a)) hle
    have hh : h ≤ a := by
      rcases Nat.eq_zero_or_pos h with h1 | h1
      · omega
      · have hm := e2 (h - 1) (by omega) (by omega)
        cases hq : ((pkT (rowT c k)).take (t - a)).getLast? with
        | none =>
          rw [List.getLast?_eq_none_iff] at hq
          have := congrArg List.length hq
          rw [List.length_take] at this
          simp only [List.length_nil] at this
          have h2 : t - a = 0 := by omega
          rw [h2] at hm
          simp at hm
        | some q =>
          have hl := pkT_last (l := (rowT c k).take (2 * (t - a))) ((row_asc hA k).sublist (List.take_sublist _ _)) (fun z hz => row_nn h0 k z (List.mem_of_mem_take hz)) (take_even c k hle) q (by rw [← pkT_take]; exact hq) _ hm
          have := hge q hq (h - 1) (by omega) hl
          omega
    rw [e] at i1 i2 ⊢
    have j1 := List.pairwise_cons.1 i1
    refine ⟨List.pairwise_cons.2 ⟨fun b hb => ?_, i1⟩, fun b hb => ?_⟩
    · rcases List.mem_cons.1 hb with rfl | hb
      · exact hh
      · have := j1.1 b hb; omega
    · rcases List.mem_cons.1 hb with rfl | hb
      · exact a1
      · exact i2 b hb

/-- No other way of taking coins is lighter. -/
theorem cnts_min {c : List Th} (hA : AscT c) : ∀ k t (b : List Nat), b.length = k + 1 → (∀ x ∈ b, x ≤ c.length) → wsum b = t * 2 ^ k → t ≤ (rowT c k).length ∧ sumT ((rowT c k).take t) ≤ (b.map (cwT c)).sum
  | 0, t, b, hl, hb, hw => by
    obtain ⟨x, rfl⟩ := List.length_eq_one_iff.1 hl
    simp [wsum] at hw
    subst hw
    refine ⟨by rw [rowT]; exact hb _ (by simp), ?_⟩
    simp [cwT, rowT]
  | k + 1, t, [], hl, _, _ => by simp at hl
  | k + 1, t, x :: b, hl, hb, hw => by
    rw [List.length_cons] at hl
    have hbl : b.length = k + 1 := by omega
    rw [wsum, hbl] at hw
    have hz : 0 < 2 ^ (k + 1) := Nat.two_pow_pos _
    have hxt : x ≤ t := by
      have : x * 2 ^ (k + 1) ≤ t * 2 ^ (k + 1) := by omega
      exact Nat.le_of_mul_le_mul_right this hz
    have hw' : wsum b = 2 * (t - x) * 2 ^ k := by
      obtain ⟨d, rfl⟩ : ∃ d, t = x + d := ⟨t - x, by omega⟩
      rw [Nat.add_mul] at hw
      rw [Nat.add_sub_cancel_left, Nat.mul_assoc, Nat.mul_left_comm, ← Nat.pow_succ', Nat.succ_eq_add_one]
      omega
    obtain ⟨i1, i2⟩ := cnts_min hA k (2 * (t - x)) b hbl (fun y hy => hb y (by simp [hy])) hw'
    have hx := hb x (by simp)
    have hp := pkT_len (rowT c k)
    have hm := mrgT_min _ c (pkT (rowT c k)) t x (t - x) rfl hA (pkT_asc (row_asc hA k)) hx (by omega) (by omega)
    rw [pkT_take, pkT_sum _ (take_even c k i1)] at hm
    refine ⟨by rw [row_len]; omega, ?_⟩
    rw [List.map_cons, List.sum_cons, rowT]
    show _ ≤ sumT (c.take x) + _
    omega

/-! ### The lengths -/
theorem wsum_le {M : Nat} : ∀ l : List Nat, (∀ a ∈ l, a ≤ M) → wsum l + M ≤ M * 2 ^ l.length
  | [], _ => by simp [wsum]
  | a :: l, h => by
    have ih := wsum_le l (fun b hb => h b (by simp [hb]))
    have ha := h a (by simp)
    rw [wsum, List.length_cons, Nat.pow_succ, ← Nat.mul_assoc]
    have := Nat.mul_le_mul_right (2 ^ l.length) ha
    omega
theorem lnR_cons (a r : Nat) (l : List Nat) : lnR (a :: l) r = (if r < a then 1 else 0) + lnR l r := by
  unfold lnR
  by_cases h : r < a <;> simp [h]; omega
theorem lnR_le (l : List Nat) (r : Nat) : lnR l r ≤ l.length := List.length_filter_le ..
theorem lnR_zero {l : List Nat} {r : Nat} (h : ∀ a ∈ l, a ≤ r) : lnR l r = 0 := by
  unfold lnR
  rw [List.length_eq_zero_iff, List.filter_eq_nil_iff]
  intro a ha
  have := h a ha
  simp; omega
theorem lnR_mono (l : List Nat) {r s : Nat} (h : r ≤ s) : lnR l s ≤ lnR l r := by
  induction l with
  | nil => simp [lnR]
  | cons a l ih =>
    rw [lnR_cons, lnR_cons]
    split <;> split <;> omega
theorem kraft_eq : ∀ (qs : List Nat) (n : Nat), qs.Pairwise (fun a b => b ≤ a) → (∀ a ∈ qs, a ≤ n) → sumN (fun r => 2 ^ (qs.length - lnR qs r)) n + wsum qs = n * 2 ^ qs.length
  | [], n, _, _ => by simp [wsum, lnR, sumN_const]
  | a :: t, n, hd, hn => by
    have h1 := List.pairwise_cons.1 hd
    have ih := kraft_eq t a h1.2 h1.1
    have ha := hn a (by simp)
    obtain ⟨d, rfl⟩ : ∃ d, n = a + d := ⟨n - a, by omega⟩
    rw [sumN_split]
    have e1 : sumN (fun r => 2 ^ ((a :: t).length - lnR (a :: t) r)) a = sumN (fun r => 2 ^ (t.length - lnR t r)) a := sumN_congr fun r hr => by
      have := lnR_le t r
      rw [lnR_cons, if_pos hr, List.length_cons, show t.length + 1 - (1 + lnR t r) = t.length - lnR t r by omega]
    have e2 : sumN (fun i => 2 ^ ((a :: t).length - lnR (a :: t) (a + i))) d = d * 2 ^ (t.length + 1) := by
      rw [← sumN_const]
      refine sumN_congr fun i _ => ?_
      rw [lnR_cons, if_neg (by omega), lnR_zero (fun b hb => by have := h1.1 b hb; omega)]
      simp
    rw [e1, e2, wsum, List.length_cons, Nat.add_mul, Nat.pow_succ]
    have : a * (2 ^ t.length * 2) = a * 2 ^ t.length + a * 2 ^ t.length := by rw [← Nat.mul_assoc]; omega
    omega
theorem wsum_snoc (x : Nat) : ∀ l : List Nat, wsum (l ++ [x]) = 2 * wsum l + x
  | [] => by simp [wsum]
  | a :: l => by
    rw [List.cons_append, wsum, wsum_snoc x l, wsum, List.length_append, List.length_singleton, Nat.pow_succ]
    have : a * (2 ^ l.length * 2) = 2 * (a * 2 ^ l.length) := by rw [← Nat.mul_assoc]; omega
    omega
/-- How many of the first n have more than j. -/
def moreN (o : Nat → Nat) (n j : Nat) : Nat := sumN (fun r => if j < o r then 1 else 0) n
theorem moreN_le (o : Nat → Nat) (j : Nat) : ∀ n, moreN o n j ≤ n
  | 0 => Nat.le_refl _
  | n + 1 => by
    have := moreN_le o j n
    unfold moreN at *
    rw [sumN]
    split <;> omega
theorem ind_all (o : Nat) : ∀ K, K ≤ o → wsum ((List.range K).map fun j => if j < o then 1 else 0) + 1 = 2 ^ K
  | 0, _ => rfl
  | K + 1, h => by
    have ih := ind_all o K (by omega)
    rw [List.range_succ, List.map_append, List.map_singleton, wsum_snoc, if_pos (by omega), Nat.pow_succ]
    omega
theorem ind_wsum (o : Nat) : ∀ K, o ≤ K → wsum ((List.range K).map fun j => if j < o then 1 else 0) + 2 ^ (K - o) = 2 ^ K
  | 0, h => by obtain rfl : o = 0 := by omega
               rfl
  | K + 1, h => by
    rcases Nat.lt_or_ge K o with h1 | h1
    · obtain rfl : o = K + 1 := by omega
      rw [Nat.sub_self]
      exact ind_all (K + 1) (K + 1) (Nat.le_refl _)
    · have ih := ind_wsum o K h1
      rw [List.range_succ, List.map_append, List.map_singleton, wsum_snoc, if_neg (by omega), show K + 1 - o = (K - o) + 1 by omega, Nat.pow_succ, Nat.pow_succ]
      omega
theorem wsum_add (f g : Nat → Nat) : ∀ K, wsum ((List.range K).map fun j => f j + g j) = wsum ((List.range K).map f) + wsum ((List.range K).map g)
  | 0 => rfl
  | K + 1 => by
    have ih := wsum_add f g K
    simp only [List.range_succ, List.map_append, List.map_singleton, wsum_snoc] at ih ⊢
    omega
theorem more_wsum (o : Nat → Nat) (K : Nat) : ∀ n, (∀ r, r < n → o r ≤ K) → wsum ((List.range K).map (moreN o n)) + sumN (fun r => 2 ^ (K - o r)) n = n * 2 ^ K
  | 0, _ => by
    have : ∀ K, wsum ((List.range K).map (moreN o 0)) = 0 := fun K => by
      induction K with
      | zero => rfl
      | succ K ih => rw [List.range_succ, List.map_append, List.map_singleton, wsum_snoc, ih]; rfl
    rw [this]; simp [sumN]
  | n + 1, h => by
    have ih := more_wsum o K n (fun r hr => h r (by omega))
    have e : (List.range K).map (moreN o (n + 1)) = (List.range K).map fun j => moreN o n j + (if j < o n then 1 else 0) := rfl
    have h1 := ind_wsum (o n) K (h n (by omega))
    rw [e, wsum_add (moreN o n), sumN, Nat.succ_mul]
    have e2 : (List.range K).map (fun j => moreN o n j) = (List.range K).map (moreN o n) := rfl
    omega

/-! ### The cost -/
def wt (c : List Th) (r : Nat) : Int := (c.map (·.1)).getD r 0
theorem cwT_sum (c : List Th) : ∀ a, a ≤ c.length → cwT c a = sumZ (wt c) a
  | 0, _ => rfl
  | a + 1, h => by
    have ih := cwT_sum c a (by omega)
    unfold cwT at *
    rw [List.take_add_one, sumT_app, ih, sumZ, List.getElem?_eq_getElem (by omega)]
    simp [sumT, wt, List.getD_eq_getElem?_getD, List.getElem?_eq_getElem (show a < c.length by omega)]
theorem wt_asc {c : List Th} (h : AscT c) {r s : Nat} (hrs : r ≤ s) (hs : s < c.length) : wt c r ≤ wt c s := by
  unfold wt
  simp only [List.getD_eq_getElem?_getD, List.getElem?_map, List.getElem?_eq_getElem hs, List.getElem?_eq_getElem (show r < c.length by omega), Option.map_some, Option.getD_some]
  rcases Nat.lt_or_ge r s with h1 | h1
  · exact List.pairwise_iff_getElem.1 h r s (by omega) hs h1
  · obtain rfl : r = s := by omega
    exact Int.le_refl _
theorem sumZ_if (f : Nat → Int) (n : Nat) : ∀ a, a ≤ n → sumZ (fun r => if r < a then f r else 0) n = sumZ f a := by
  induction n with
  | zero => intro a h; obtain rfl : a = 0 := by omega
            rfl
  | succ n ih =>
    intro a h
    rw [sumZ]
    rcases Nat.lt_or_ge n a with h1 | h1
    · obtain rfl : a = n + 1 := by omega
      rw [if_pos (by omega), sumZ, sumZ_congr (g := f) (fun i hi => if_pos (by omega))]
    · rw [if_neg (by omega), ih a h1]; omega
/-- The own code's cost. -/
theorem own_cost (c : List Th) : ∀ qs : List Nat, (∀ a ∈ qs, a ≤ c.length) → (qs.map (cwT c)).sum = sumZ (fun r => wt c r * (lnR qs r : Int)) c.length
  | [], _ => by
    simp only [List.map_nil, List.sum_nil, lnR, List.filter_nil, List.length_nil]
    rw [sumZ_congr (g := fun _ => 0) (fun i _ => by simp), sumZ_zero]
  | a :: t, h => by
    have ih := own_cost c t (fun b hb => h b (by simp [hb]))
    rw [List.map_cons, List.sum_cons, ih, cwT_sum c a (h a (by simp)), ← sumZ_if (wt c) c.length a (h a (by simp)), ← sumZ_add]
    refine sumZ_congr fun r _ => ?_
    rw [lnR_cons]
    split
    · rw [show ((1 + lnR t r : Nat) : Int) = 1 + (lnR t r : Int) by omega, Int.mul_add]; omega
    · simp
/-- As many of the first ones are no heavier than those picked. -/
theorem pick_ge {f : Nat → Int} {p : Nat → Bool} : ∀ (n : Nat), (∀ r s, r ≤ s → s < n → f r ≤ f s) → sumZ f (sumN (fun r => if p r then 1 else 0) n) ≤ sumZ (fun r => if p r then f r else 0) n
  | 0, _ => Int.le_refl _
  | n + 1, h => by
    have ih := pick_ge (f := f) (p := p) n (fun r s hrs hs => h r s hrs (by omega))
    have hle : sumN (fun r => if p r = true then 1 else 0) n ≤ n := by
      clear ih h
      induction n with
      | zero => exact Nat.le_refl _
      | succ n ih => rw [sumN]; split <;> omega
    rw [sumN, sumZ]
    generalize sumN (fun r => if p r = true then 1 else 0) n = m at *
    cases hp : p n with
    | false => simpa using ih
    | true =>
      simp only [if_true]
      rw [sumZ]
      have := h m n hle (by omega)
      omega
theorem sum_swap (w : Nat → Int) (o : Nat → Nat) (n : Nat) : ∀ K, (((List.range K).map fun j => sumZ (fun r => if j < o r then w r else 0) n).sum) = sumZ (fun r => w r * ((min (o r) K : Nat) : Int)) n
  | 0 => by
    simp only [List.range_zero, List.map_nil, List.sum_nil, Nat.min_zero]
    rw [sumZ_congr (g := fun _ => 0) (fun i _ => by simp), sumZ_zero]
  | K + 1 => by
    rw [List.range_succ, List.map_append, List.sum_append, sum_swap w o n K, List.map_singleton, List.sum_singleton, ← sumZ_add]
    refine sumZ_congr fun r _ => ?_
    split
    · rw [show min (o r) (K + 1) = K + 1 by omega, show min (o r) K = K by omega, show ((K + 1 : Nat) : Int) = (K : Int) + 1 by omega, Int.mul_add]; omega
    · rw [show min (o r) (K + 1) = o r by omega, show min (o r) K = o r by omega]; omega
theorem sum_le_map {f g : Nat → Int} : ∀ l : List Nat, (∀ j ∈ l, f j ≤ g j) → (l.map f).sum ≤ (l.map g).sum
  | [], _ => Int.le_refl _
  | a :: l, h => by
    have := sum_le_map l (fun j hj => h j (by simp [hj]))
    have := h a (by simp)
    simp only [List.map_cons, List.sum_cons]; omega
/-- Another code's cost is at least that of qs many of the lightest coins, length by length. -/
theorem other_cost {c : List Th} (hA : AscT c) (o : Nat → Nat) (K : Nat) (ho : ∀ r, r < c.length → o r ≤ K) : (((List.range K).map (moreN o c.length)).map (cwT c)).sum ≤ sumZ (fun r => wt c r * (o r : Int)) c.length := by
  have e := sum_swap (wt c) o c.length K
  rw [sumZ_congr (g := fun r => wt c r * (o r : Int)) (fun r hr => by rw [Nat.min_eq_left (ho r hr)])] at e
  rw [← e, List.map_map]
  refine sum_le_map _ fun j _ => ?_
  show cwT c (moreN o c.length j) ≤ _
  rw [cwT_sum c _ (moreN_le o j _)]
  have := pick_ge (f := wt c) (p := fun r => decide (j < o r)) c.length (fun r s h1 h2 => wt_asc hA h1 h2)
  simpa [moreN] using this

/-! ### Together -/
theorem row_short (c : List Th) (h0 : 0 < c.length) : ∀ k, (rowT c k).length < 2 * c.length ∧ ∀ x, c.length ≤ x * 2 ^ k → 2 * c.length - (rowT c k).length ≤ x
  | 0 => ⟨by rw [rowT]; omega, fun x hx => by rw [rowT]; simp at hx; omega⟩
  | k + 1 => by
    obtain ⟨h1, h2⟩ := row_short c h0 k
    rw [row_len]
    refine ⟨by omega, fun x hx => ?_⟩
    have e : 2 * x * 2 ^ k = x * 2 ^ (k + 1) := by rw [Nat.pow_succ, Nat.mul_comm 2 x, Nat.mul_assoc, Nat.mul_comm 2]
    have := h2 (2 * x) (by omega)
    omega
theorem row_enough {c : List Th} (h0 : 0 < c.length) {k : Nat} (h : c.length ≤ 2 ^ (k + 1)) : 2 * c.length - 2 ≤ (rowT c k).length := by
  have := (row_short c h0 k).2 2 (by rw [← Nat.pow_succ']; exact h)
  omega

/-- The length of the coin r, in bits. -/
def lnC (c : List Th) (k r : Nat) : Nat := lnR (cnts c k (2 * c.length - 2)) r
theorem pm_all {c : List Th} (hA : AscT c) (h0 : ∀ z ∈ c, 0 ≤ z.1) (h2 : 2 ≤ c.length) {k : Nat} (hk : c.length ≤ 2 ^ (k + 1)) :
    (∀ r, r < c.length → 1 ≤ lnC c k r ∧ lnC c k r ≤ k + 1) ∧ sumN (fun r => 2 ^ (k + 1 - lnC c k r)) c.length = 2 ^ (k + 1) ∧
    ∀ o : Nat → Nat, (∀ r, r < c.length → o r ≤ k + 1) → sumN (fun r => 2 ^ (k + 1 - o r)) c.length = 2 ^ (k + 1) → sumZ (fun r => wt c r * (lnC c k r : Int)) c.length ≤ sumZ (fun r => wt c r * (o r : Int)) c.length := by
  have ht := row_enough (by omega : 0 < c.length) hk
  have hw := cnts_wsum c k _ ht
  have hs := cnts_sum c k _ ht
  obtain ⟨hd, hle⟩ := cnts_desc hA h0 k _ ht
  have hl := cnts_len c k (2 * c.length - 2)
  have hkr := kraft_eq _ c.length hd hle
  have hoc := own_cost c _ hle
  obtain ⟨a, t, e, _, _⟩ := cnts_head c k _ ht
  have hln : ∀ r, lnC c k r = lnR (cnts c k (2 * c.length - 2)) r := fun _ => rfl
  simp only [hln]
  generalize cnts c k (2 * c.length - 2) = qs at *
  have hpow : (2 * c.length - 2) * 2 ^ k + 2 ^ (k + 1) = c.length * 2 ^ (k + 1) := by
    obtain ⟨d, hd⟩ : ∃ d, c.length = d + 1 := ⟨c.length - 1, by omega⟩
    rw [hd, show 2 * (d + 1) - 2 = d * 2 by omega, Nat.mul_assoc, ← Nat.pow_succ', Nat.succ_mul]
  rw [hl] at hkr
  refine ⟨fun r hr => ⟨?_, by have := lnR_le qs r; omega⟩, by omega, fun o ho hko => ?_⟩
  · have ha : a = c.length := by
      have h1 := hle a (by rw [e]; simp)
      rcases Nat.lt_or_ge a c.length with h3 | h3
      · exfalso
        have h4 := wsum_le (M := c.length - 1) qs (fun b hb => by
          rw [e] at hb hd
          rcases List.mem_cons.1 hb with rfl | hb
          · omega
          · have := (List.pairwise_cons.1 hd).1 b hb; omega)
        rw [hw, hl] at h4
        obtain ⟨d, hd'⟩ : ∃ d, c.length = d + 1 := ⟨c.length - 1, by omega⟩
        rw [hd', show 2 * (d + 1) - 2 = d * 2 by omega, Nat.mul_assoc, ← Nat.pow_succ', Nat.succ_eq_add_one, Nat.add_sub_cancel] at h4
        omega
      · omega
    rw [e, lnR_cons, if_pos (by omega)]
    omega
  · have h1 := more_wsum o (k + 1) c.length ho
    have h3 := (cnts_min hA k (2 * c.length - 2) ((List.range (k + 1)).map (moreN o c.length)) (by simp) (fun x hx => by
      rw [List.mem_map] at hx
      obtain ⟨j, _, rfl⟩ := hx
      exact moreN_le o j _) (by omega)).2
    have h4 := other_cost hA o (k + 1) ho
    omega

end Go.Proofs.Ytgjnfajdejkkjaa.VG
