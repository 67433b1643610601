/-
  Package-merge in plain lists: rows of things, what their first ones hold.
-/
import Derived.Test.YtgjnfajdejkkjaaWa
namespace Go.Proofs.Ytgjnfajdejkkjaa.VG
open Go
set_option linter.unusedSimpArgs false
set_option linter.unusedVariables false
set_option maxRecDepth 20000

/-- A thing: how heavy, of which symbols. -/
abbrev Th := Int × List Nat
def AscT (l : List Th) : Prop := l.Pairwise fun x y => x.1 ≤ y.1
def mrgT : List Th → List Th → List Th
  | [], Y => Y
  | x :: X, [] => x :: X
  | x :: X, y :: Y => if y.1 < x.1 then y :: mrgT (x :: X) Y else x :: mrgT X (y :: Y)
termination_by X Y => X.length + Y.length
/-- How many of the first t are the first row's. -/
def spl : List Th → List Th → Nat → Nat
  | _, _, 0 => 0
  | [], _, _ + 1 => 0
  | x :: X, [], t + 1 => spl X [] t + 1
  | x :: X, y :: Y, t + 1 => if y.1 < x.1 then spl (x :: X) Y t else spl X (y :: Y) t + 1
def pkT : List Th → List Th
  | a :: b :: r => (a.1 + b.1, a.2 ++ b.2) :: pkT r
  | _ => []
def rowT (c : List Th) : Nat → List Th
  | 0 => c
  | k + 1 => mrgT c (pkT (rowT c k))
def sumT (l : List Th) : Int := (l.map (·.1)).sum
def symT (l : List Th) : List Nat := l.flatMap (·.2)

theorem mrgT_nil (X : List Th) : mrgT X [] = X := by cases X <;> simp [mrgT]
theorem mrgT_nil' (X : List Th) : mrgT [] X = X := by simp [mrgT]
theorem mrgT_r {x y : Th} {X Y : List Th} (h : y.1 < x.1) : mrgT (x :: X) (y :: Y) = y :: mrgT (x :: X) Y := by rw [mrgT]; simp [h]
theorem mrgT_l {x y : Th} {X Y : List Th} (h : x.1 ≤ y.1) : mrgT (x :: X) (y :: Y) = x :: mrgT X (y :: Y) := by rw [mrgT]; simp [show ¬ y.1 < x.1 by omega]
theorem spl_r {x y : Th} {X Y : List Th} {t : Nat} (h : y.1 < x.1) : spl (x :: X) (y :: Y) (t + 1) = spl (x :: X) Y t := by simp [spl, h]
theorem spl_l {x y : Th} {X Y : List Th} {t : Nat} (h : x.1 ≤ y.1) : spl (x :: X) (y :: Y) (t + 1) = spl X (y :: Y) t + 1 := by simp [spl, show ¬ y.1 < x.1 by omega]
theorem spl_zero (X Y : List Th) : spl X Y 0 = 0 := by cases X <;> cases Y <;> simp [spl]
theorem spl_nil (Y : List Th) (t : Nat) : spl [] Y t = 0 := by cases t <;> simp [spl]
theorem spl_nil' : ∀ (X : List Th) (t : Nat), t ≤ X.length → spl X [] t = t
  | X, 0, _ => spl_zero _ _
  | [], t + 1, h => by simp at h
  | x :: X, t + 1, h => by rw [spl, spl_nil' X t (by simpa using h)]

theorem mrgT_len : ∀ (n : Nat) (X Y : List Th), X.length + Y.length = n → (mrgT X Y).length = n
  | _, [], Y, h => by simpa [mrgT_nil'] using h
  | _, x :: X, [], h => by simpa [mrgT_nil] using h
  | 0, x :: X, y :: Y, h => by simp at h
  | n + 1, x :: X, y :: Y, h => by
    by_cases hlt : y.1 < x.1
    · rw [mrgT_r hlt, List.length_cons, mrgT_len n (x :: X) Y (by simp at h ⊢; omega)]
    · rw [mrgT_l (by omega), List.length_cons, mrgT_len n X (y :: Y) (by simp at h ⊢; omega)]
/-- The first t of a merge: the first ones of the two. -/
theorem mrgT_take : ∀ (n : Nat) (X Y : List Th) (t : Nat), X.length + Y.length = n → t ≤ n → spl X Y t ≤ X.length ∧ spl X Y t ≤ t ∧ t - spl X Y t ≤ Y.length ∧ ((mrgT X Y).take t).Perm (X.take (spl X Y t) ++ Y.take (t - spl X Y t))
  | _, X, Y, 0, _, _ => by simp [spl_zero]
  | _, [], Y, t + 1, h, ht => by simp [spl_nil, mrgT_nil'] at *; omega
  | _, x :: X, [], t + 1, h, ht => by
    rw [spl_nil' _ _ (by simp at h ⊢; omega), mrgT_nil]
    simp at h ⊢
    omega
  | 0, x :: X, y :: Y, t + 1, h, ht => by simp at h
  | n + 1, x :: X, y :: Y, t + 1, h, ht => by
    by_cases hlt : y.1 < x.1
    · obtain ⟨a, b, c, d⟩ := mrgT_take n (x :: X) Y t (by simp at h ⊢; omega) (by omega)
      rw [spl_r hlt, mrgT_r hlt]
      refine ⟨a, by omega, by simp; omega, ?_⟩
      rw [List.take_succ_cons, show t + 1 - spl (x :: X) Y t = (t - spl (x :: X) Y t) + 1 by omega, List.take_succ_cons]
      exact (List.Perm.cons y d).trans List.perm_middle.symm
    · obtain ⟨a, b, c, d⟩ := mrgT_take n X (y :: Y) t (by simp at h ⊢; omega) (by omega)
      rw [spl_l (by omega), mrgT_l (by omega)]
      refine ⟨by simp; omega, by omega, by rw [show t + 1 - (spl X (y :: Y) t + 1) = t - spl X (y :: Y) t by omega]; exact c, ?_⟩
      rw [List.take_succ_cons, show t + 1 - (spl X (y :: Y) t + 1) = t - spl X (y :: Y) t by omega, List.take_succ_cons]
      exact List.Perm.cons x d
theorem mrgT_perm (X Y : List Th) : (mrgT X Y).Perm (X ++ Y) := by
  obtain ⟨a, b, c, d⟩ := mrgT_take _ X Y (X.length + Y.length) rfl (Nat.le_refl _)
  have h1 := mrgT_len _ X Y rfl
  rw [← h1, List.take_length] at d
  rw [h1] at d
  have ha : spl X Y (X.length + Y.length) = X.length := by omega
  rw [ha, List.take_length, Nat.add_sub_cancel_left, List.take_length] at d
  exact d
theorem mrgT_asc : ∀ (n : Nat) (X Y : List Th), X.length + Y.length = n → AscT X → AscT Y → AscT (mrgT X Y)
  | _, [], Y, _, _, h => by rwa [mrgT_nil']
  | _, x :: X, [], _, h, _ => by rwa [mrgT_nil]
  | 0, x :: X, y :: Y, h, _, _ => by simp at h
  | n + 1, x :: X, y :: Y, h, hX, hY => by
    by_cases hlt : y.1 < x.1
    · have ih := mrgT_asc n (x :: X) Y (by simp at h ⊢; omega) hX (List.pairwise_cons.1 hY).2
      rw [mrgT_r hlt]
      refine List.pairwise_cons.2 ⟨fun z hz => ?_, ih⟩
      have := (mrgT_perm (x :: X) Y).mem_iff.1 hz
      rcases List.mem_append.1 this with h1 | h1
      · rcases List.mem_cons.1 h1 with rfl | h1
        · omega
        · have := (List.pairwise_cons.1 hX).1 z h1; omega
      · exact (List.pairwise_cons.1 hY).1 z h1
    · have ih := mrgT_asc n X (y :: Y) (by simp at h ⊢; omega) (List.pairwise_cons.1 hX).2 hY
      rw [mrgT_l (by omega)]
      refine List.pairwise_cons.2 ⟨fun z hz => ?_, ih⟩
      have := (mrgT_perm X (y :: Y)).mem_iff.1 hz
      rcases List.mem_append.1 this with h1 | h1
      · exact (List.pairwise_cons.1 hX).1 z h1
      · rcases List.mem_cons.1 h1 with rfl | h1
        · omega
        · have := (List.pairwise_cons.1 hY).1 z h1; omega

theorem pkT_len : ∀ l : List Th, (pkT l).length = l.length / 2
  | [] => rfl
  | [_] => by simp [pkT]
  | a :: b :: r => by rw [pkT, List.length_cons, pkT_len r]; simp; omega
theorem pkT_take : ∀ (l : List Th) (p : Nat), (pkT l).take p = pkT (l.take (2 * p))
  | [], p => by simp [pkT]
  | [x], p => by cases p <;> simp [pkT, Nat.mul_add]
  | a :: b :: r, 0 => by simp [pkT]
  | a :: b :: r, p + 1 => by
    rw [show 2 * (p + 1) = 2 * p + 1 + 1 by omega]
    simp only [pkT, List.take_succ_cons, pkT_take r p]
theorem pkT_sum : ∀ l : List Th, l.length % 2 = 0 → sumT (pkT l) = sumT l
  | [], _ => rfl
  | [_], h => by simp at h
  | a :: b :: r, h => by
    have := pkT_sum r (by simp at h; omega)
    unfold sumT at *
    rw [pkT, List.map_cons, List.sum_cons, this]
    simp only [List.map_cons, List.sum_cons]
    omega
theorem pkT_sym : ∀ l : List Th, l.length % 2 = 0 → symT (pkT l) = symT l
  | [], _ => rfl
  | [_], h => by simp at h
  | a :: b :: r, h => by
    have := pkT_sym r (by simp at h; omega)
    unfold symT at *
    rw [pkT, List.flatMap_cons, this]
    simp
theorem pkT_mem {z : Th} : ∀ {l : List Th}, z ∈ pkT l → ∃ a ∈ l, ∃ b ∈ l, z.1 = a.1 + b.1
  | [], h => by simp [pkT] at h
  | [_], h => by simp [pkT] at h
  | a :: b :: r, h => by
    rw [pkT] at h
    rcases List.mem_cons.1 h with rfl | h
    · exact ⟨a, by simp, b, by simp, rfl⟩
    · obtain ⟨x, hx, y, hy, e⟩ := pkT_mem h
      exact ⟨x, by simp [hx], y, by simp [hy], e⟩
theorem pkT_asc : ∀ {l : List Th}, AscT l → AscT (pkT l)
  | [], _ => List.Pairwise.nil
  | [_], _ => List.Pairwise.nil
  | a :: b :: r, h => by
    have h1 := List.pairwise_cons.1 h
    have h2 := List.pairwise_cons.1 h1.2
    refine List.pairwise_cons.2 ⟨fun z hz => ?_, pkT_asc h2.2⟩
    obtain ⟨x, hx, y, hy, e⟩ := pkT_mem hz
    have := h1.1 x (by simp [hx])
    have := h2.1 y hy
    show a.1 + b.1 ≤ z.1
    omega
/-- What is packed is no heavier than the package behind it. -/
theorem pkT_last : ∀ {l : List Th}, AscT l → (∀ z ∈ l, 0 ≤ z.1) → l.length % 2 = 0 → ∀ q, (pkT l).getLast? = some q → ∀ z ∈ l, z.1 ≤ q.1
  | [], _, _, _, q, h => by simp [pkT] at h
  | [_], _, _, h, _, _ => by simp at h
  | [a, b], h, h0, _, q, hq => by
    simp [pkT] at hq
    subst hq
    have ha := h0 a (by simp)
    have hb := h0 b (by simp)
    intro z hz
    simp at hz
    rcases hz with rfl | rfl
    · show z.1 ≤ z.1 + b.1; omega
    · show z.1 ≤ a.1 + z.1; omega
  | a :: b :: x :: r, h, h0, hl, q, hq => by
    have h1 := List.pairwise_cons.1 h
    have h2 := List.pairwise_cons.1 h1.2
    have ih := pkT_last (l := x :: r) h2.2 (fun z hz => h0 z (List.mem_cons_of_mem _ (List.mem_cons_of_mem _ hz))) (by simp only [List.length_cons] at hl ⊢; omega) q (by
      rw [pkT, List.getLast?_cons] at hq
      cases r with
      | nil => simp at hl
      | cons y r =>
        rw [pkT, List.getLast?_cons] at hq ⊢
        simpa using hq)
    intro z hz
    have hx := ih x (by simp)
    rcases List.mem_cons.1 hz with rfl | hz
    · have := h1.1 x (by simp); omega
    rcases List.mem_cons.1 hz with rfl | hz
    · have := h2.1 x (by simp); omega
    · exact ih z hz

/-- Where p of the second row are taken, all of the first row that are no heavier than the last of these are taken. -/
theorem spl_ge : ∀ (n : Nat) (X Y : List Th) (t : Nat), X.length + Y.length = n → t ≤ n → ∀ (q : Th), (Y.take (t - spl X Y t)).getLast? = some q → AscT Y → ∀ j, (h : j < X.length) → X[j].1 ≤ q.1 → AscT X → j < spl X Y t
  | _, [], Y, t, _, _, _, _, _, j, h, _, _ => by simp at h
  | _, x :: X, [], t, _, _, q, hq, _, _, _, _, _ => by simp at hq
  | 0, x :: X, y :: Y, t, h, _, _, _, _, _, _, _, _ => by simp at h
  | n + 1, x :: X, y :: Y, 0, h, _, q, hq, _, _, _, _, _ => by simp at hq
  | n + 1, x :: X, y :: Y, t + 1, h, ht, q, hq, hY, j, hj, hw, hX => by
    by_cases hlt : y.1 < x.1
    · rw [spl_r hlt] at hq ⊢
      have hb := (mrgT_take n (x :: X) Y t (by simp at h ⊢; omega) (by omega)).2.1
      rw [show t + 1 - spl (x :: X) Y t = (t - spl (x :: X) Y t) + 1 by omega, List.take_succ_cons, List.getLast?_cons] at hq
      have hxj : x.1 ≤ (x :: X)[j].1 := by
        cases j with
        | zero => exact Int.le_refl _
        | succ j => exact (List.pairwise_cons.1 hX).1 _ (List.getElem_mem _)
      cases hl : (Y.take (t - spl (x :: X) Y t)).getLast? with
      | none =>
        rw [hl] at hq
        simp at hq
        subst hq
        omega
      | some z =>
        rw [hl] at hq
        simp at hq
        subst hq
        exact spl_ge n (x :: X) Y t (by simp at h ⊢; omega) (by omega) z hl (List.pairwise_cons.1 hY).2 j hj hw hX
    · rw [spl_l (by omega)] at hq ⊢
      rw [show t + 1 - (spl X (y :: Y) t + 1) = t - spl X (y :: Y) t by omega] at hq
      cases j with
      | zero => omega
      | succ j =>
        have := spl_ge n X (y :: Y) t (by simp at h ⊢; omega) (by omega) q hq hY j (by simpa using hj) (by simpa using hw) (List.pairwise_cons.1 hX).2
        omega

theorem sumT_cons (x : Th) (l : List Th) : sumT (x :: l) = x.1 + sumT l := by simp [sumT]
theorem sumT_app (l m : List Th) : sumT (l ++ m) = sumT l + sumT m := by simp [sumT]
theorem sumT_nil : sumT [] = 0 := rfl
/-- One more of a rising row costs at least its first. -/
theorem sum_more {x : Th} : ∀ {X : List Th} {t : Nat}, AscT (x :: X) → t < (x :: X).length → sumT ((x :: X).take t) + x.1 ≤ sumT ((x :: X).take (t + 1)) := by
  intro X t h ht
  rw [List.take_add_one, sumT_app, List.getElem?_eq_getElem ht]
  have : x.1 ≤ (x :: X)[t].1 := by
    cases t with
    | zero => exact Int.le_refl _
    | succ j => exact (List.pairwise_cons.1 h).1 _ (List.getElem_mem _)
  simp only [Option.toList_some, sumT_cons, sumT_nil]
  omega
/-- No other first ones of the two are lighter. -/
theorem mrgT_min : ∀ (n : Nat) (X Y : List Th) (t a p : Nat), X.length + Y.length = n → AscT X → AscT Y → a ≤ X.length → p ≤ Y.length → a + p = t → sumT ((mrgT X Y).take t) ≤ sumT (X.take a) + sumT (Y.take p)
  | _, X, Y, 0, a, p, _, _, _, _, _, e => by
    obtain rfl : a = 0 := by omega
    obtain rfl : p = 0 := by omega
    simp [sumT_nil]
  | _, [], Y, t + 1, a, p, _, _, _, ha, _, e => by
    obtain rfl : a = 0 := by simpa using ha
    rw [mrgT_nil', show p = t + 1 by omega]
    simp [sumT_nil]
  | _, x :: X, [], t + 1, a, p, _, _, _, _, hp, e => by
    obtain rfl : p = 0 := by simpa using hp
    rw [mrgT_nil, show a = t + 1 by omega]
    simp [sumT_nil]
  | 0, x :: X, y :: Y, t + 1, _, _, h, _, _, _, _, _ => by simp at h
  | n + 1, x :: X, y :: Y, t + 1, a, p, h, hX, hY, ha, hp, e => by
    by_cases hlt : y.1 < x.1
    · rw [mrgT_r hlt, List.take_succ_cons, sumT_cons]
      cases p with
      | zero =>
        obtain rfl : a = t + 1 := by omega
        have ih := mrgT_min n (x :: X) Y t t 0 (by simp at h ⊢; omega) hX (List.pairwise_cons.1 hY).2 (by omega) (by omega) (by omega)
        have := sum_more hX (t := t) (by omega)
        simp only [List.take_zero, sumT_nil] at ih ⊢
        omega
      | succ p =>
        have ih := mrgT_min n (x :: X) Y t a p (by simp at h ⊢; omega) hX (List.pairwise_cons.1 hY).2 ha (by simpa using hp) (by omega)
        rw [List.take_succ_cons, sumT_cons]
        omega
    · rw [mrgT_l (by omega), List.take_succ_cons, sumT_cons]
      cases a with
      | zero =>
        obtain rfl : p = t + 1 := by omega
        have ih := mrgT_min n X (y :: Y) t 0 t (by simp at h ⊢; omega) (List.pairwise_cons.1 hX).2 hY (by omega) (by omega) (by omega)
        have := sum_more hY (t := t) (by omega)
        simp only [List.take_zero, sumT_nil] at ih ⊢
        omega
      | succ a =>
        have ih := mrgT_min n X (y :: Y) t a p (by simp at h ⊢; omega) (List.pairwise_cons.1 hX).2 hY (by simpa using ha) hp (by omega)
        rw [List.take_succ_cons, sumT_cons]
        omega

end Go.Proofs.Ytgjnfajdejkkjaa.VG
