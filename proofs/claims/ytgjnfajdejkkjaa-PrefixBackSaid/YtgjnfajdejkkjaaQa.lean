/-
  The library's stable sort laid at this program; what insertion makes of a list.
-/
import Derived.Shelf.GgSortMore.Stable
import Derived.Test.YtgjnfajdejkkjaaIr
import Derived.Test.YtgjnfajdejkkjaaHq
namespace Go.Proofs.Ytgjnfajdejkkjaa.VG
open Go
set_option linter.unusedSimpArgs false
set_option linter.unusedVariables false
set_option maxRecDepth 20000

def sl8_ren : Go.Shelf.Ren := ⟨fun | 8 => 52 | 13 => 55 | 14 => 56 | 16 => 58 | 15 => 57 | 29 => 68 | 30 => 69 | 42 => 70 | 49 => 71 | n => n, fun | 20 => 20 | 26 => 86 | 36 => 95 | 0 => 0 | 38 => 97 | 42 => 101 | 3 => 3 | 4 => 4 | 47 => 34 | 17 => 17 | 33 => 92 | 34 => 93 | 89 => 121 | 12 => 12 | 56 => 113 | 82 => 114 | 5 => 5 | 83 => 115 | 84 => 116 | 85 => 117 | 86 => 118 | 87 => 119 | n => n, fun | n => n⟩
theorem sl8 : Go.Proofs.LaysGt.n8 Try.prog sl8_ren where
  mixed := by kernel_rfl
  f8 := Try.func52.trans (congrArg some (by kernel_rfl))
  f13 := Try.func55.trans (congrArg some (by kernel_rfl))
  f14 := Try.func56.trans (congrArg some (by kernel_rfl))
  f15 := Try.func57.trans (congrArg some (by kernel_rfl))
  f16 := Try.func58.trans (congrArg some (by kernel_rfl))
  f29 := Try.func68.trans (congrArg some (by kernel_rfl))
  f30 := Try.func69.trans (congrArg some (by kernel_rfl))
  f42 := Try.func70.trans (congrArg some (by kernel_rfl))
  f49 := Try.func71.trans (congrArg some (by kernel_rfl))
  t0 := Try.underlying0
  a0 := Try.isAgg0
  z0 := Try.sizeOf0
  v0 := Try.zeroValue0
  i0 := by kernel_rfl
  t3 := Try.underlying3
  a3 := Try.isAgg3
  z3 := Try.sizeOf3
  v3 := Try.zeroValue3
  i3 := by kernel_rfl
  t4 := Try.underlying4
  a4 := Try.isAgg4
  z4 := Try.sizeOf4
  v4 := Try.zeroValue4
  i4 := by kernel_rfl
  t5 := Try.underlying5
  a5 := Try.isAgg5
  z5 := Try.sizeOf5
  v5 := Try.zeroValue5
  i5 := by kernel_rfl
  t12 := Try.underlying12
  a12 := Try.isAgg12
  z12 := Try.sizeOf12
  v12 := Try.zeroValue12
  i12 := by kernel_rfl
  t17 := Try.underlying17
  a17 := Try.isAgg17
  z17 := Try.sizeOf17
  v17 := Try.zeroValue17
  i17 := by kernel_rfl
  t20 := Try.underlying20
  a20 := Try.isAgg20
  z20 := Try.sizeOf20
  v20 := Try.zeroValue20
  i20 := by kernel_rfl
  t26 := Try.underlying86
  a26 := Try.isAgg86
  z26 := Try.sizeOf86
  v26 := Try.zeroValue86
  i26 := by kernel_rfl
  t33 := Try.underlying92
  a33 := Try.isAgg92
  z33 := Try.sizeOf92
  v33 := Try.zeroValue92
  i33 := by kernel_rfl
  t34 := Try.underlying93
  a34 := Try.isAgg93
  z34 := Try.sizeOf93
  v34 := Try.zeroValue93
  i34 := by kernel_rfl
  t36 := Try.underlying95
  a36 := Try.isAgg95
  z36 := Try.sizeOf95
  v36 := Try.zeroValue95
  i36 := by kernel_rfl
  t38 := Try.underlying97
  a38 := Try.isAgg97
  z38 := Try.sizeOf97
  v38 := Try.zeroValue97
  i38 := by kernel_rfl
  t42 := Try.underlying101
  a42 := Try.isAgg101
  z42 := Try.sizeOf101
  v42 := Try.zeroValue101
  i42 := by kernel_rfl
  t47 := Try.underlying34
  a47 := Try.isAgg34
  z47 := Try.sizeOf34
  v47 := Try.zeroValue34
  i47 := by kernel_rfl
  t56 := Try.underlying113
  a56 := Try.isAgg113
  z56 := Try.sizeOf113
  v56 := Try.zeroValue113
  i56 := by kernel_rfl
  t82 := Try.underlying114
  a82 := Try.isAgg114
  z82 := Try.sizeOf114
  v82 := Try.zeroValue114
  i82 := by kernel_rfl
  t83 := Try.underlying115
  a83 := Try.isAgg115
  z83 := Try.sizeOf115
  v83 := Try.zeroValue115
  i83 := by kernel_rfl
  t84 := Try.underlying116
  a84 := Try.isAgg116
  z84 := Try.sizeOf116
  v84 := Try.zeroValue116
  i84 := by kernel_rfl
  t85 := Try.underlying117
  a85 := Try.isAgg117
  z85 := Try.sizeOf117
  v85 := Try.zeroValue117
  i85 := by kernel_rfl
  t86 := Try.underlying118
  a86 := Try.isAgg118
  z86 := Try.sizeOf118
  v86 := Try.zeroValue118
  i86 := by kernel_rfl
  t87 := Try.underlying119
  a87 := Try.isAgg119
  z87 := Try.sizeOf119
  v87 := Try.zeroValue119
  i87 := by kernel_rfl
  t89 := Try.underlying121
  a89 := Try.isAgg121
  z89 := Try.sizeOf121
  v89 := Try.zeroValue121
  i89 := by kernel_rfl

/-! ### What insertion makes of a list -/
def insV (lt : Nat → Nat → Bool) (x : Nat) : List Nat → List Nat
  | [] => [x]
  | y :: t => if lt x y then y :: insV lt x t else x :: y :: t
/-- x put into a list from its end on, ahead of what it is less than. -/
def insL (lt : Nat → Nat → Bool) (x : Nat) (l : List Nat) : List Nat := (insV lt x l.reverse).reverse
def srt (lt : Nat → Nat → Bool) (l : List Nat) : List Nat := l.foldl (fun a x => insL lt x a) []

theorem insV_length (lt : Nat → Nat → Bool) (x : Nat) : ∀ l : List Nat, (insV lt x l).length = l.length + 1
  | [] => rfl
  | y :: t => by
    unfold insV
    split
    · simp [insV_length lt x t]
    · rfl
theorem insL_length (lt : Nat → Nat → Bool) (x : Nat) (l : List Nat) : (insL lt x l).length = l.length + 1 := by simp [insL, insV_length]
theorem insL_snoc (lt : Nat → Nat → Bool) (x y : Nat) (l : List Nat) : insL lt x (l ++ [y]) = if lt x y then insL lt x l ++ [y] else l ++ [y, x] := by
  unfold insL
  rw [List.reverse_append, List.reverse_singleton, List.singleton_append, show insV lt x (y :: l.reverse) = if lt x y then y :: insV lt x l.reverse else x :: y :: l.reverse from rfl]
  split <;> simp

theorem insInner_list (lt : Nat → Nat → Bool) (x : Nat) : ∀ (l r : List Nat), Sort.insInner lt 0 l.length (l ++ x :: r).toArray = (insL lt x l ++ r).toArray := by
  intro l
  induction hn : l.length generalizing l with
  | zero =>
    intro r
    obtain rfl := List.length_eq_zero_iff.1 hn
    rfl
  | succ n ih =>
    intro r
    obtain ⟨l', y, rfl⟩ : ∃ l' y, l = l' ++ [y] := ⟨l.dropLast, l.getLast (by intro h; simp [h] at hn), (List.dropLast_concat_getLast _).symm⟩
    have hl : l'.length = n := by simpa using hn
    have e1 : ((l' ++ [y] ++ x :: r).toArray)[n + 1]! = x := by
      rw [getElem!_pos _ _ (by simp; omega)]; simp [hl, List.getElem_append]
    have e0 : ((l' ++ [y] ++ x :: r).toArray)[n]! = y := by
      rw [getElem!_pos _ _ (by simp; omega)]; simp [hl, List.getElem_append]
    have es : Sort.swp (l' ++ [y] ++ x :: r).toArray (n + 1) n = (l' ++ x :: ([y] ++ r)).toArray := by
      unfold Sort.swp
      rw [e0, e1]
      apply Array.ext'
      simp only [Array.toList_setIfInBounds]
      subst hl
      simp [List.set_append]
    unfold Sort.insInner
    rw [e0, e1, es, insL_snoc]
    by_cases h : lt x y = true
    · rw [if_pos (by simp [h]), if_pos h, ih l' hl]
      simp
    · rw [if_neg (by simp [h]), if_neg h]
      simp

theorem insOuter_list (lt : Nat → Nat → Bool) : ∀ (r l : List Nat), Sort.insOuter lt 0 (l.length + r.length) l.length (l ++ r).toArray = (r.foldl (fun a x => insL lt x a) l).toArray
  | [], l => by unfold Sort.insOuter; rw [if_neg (by simp)]; simp
  | x :: r, l => by
    unfold Sort.insOuter
    rw [if_pos (by simp), insInner_list lt x l r]
    have := insOuter_list lt r (insL lt x l)
    rw [insL_length] at this
    rw [List.length_cons, show l.length + (r.length + 1) = l.length + 1 + r.length by omega, this]
    rfl
theorem insertionSort_list (lt : Nat → Nat → Bool) (l : List Nat) (n : Nat) (hn : n = l.length) : Sort.insertionSort lt l.toArray 0 n = (srt lt l).toArray := by
  subst hn
  cases l with
  | nil => unfold Sort.insertionSort Sort.insOuter; rw [if_neg (by simp)]; rfl
  | cons x r =>
    have := insOuter_list lt r [x]
    unfold Sort.insertionSort
    rw [show (x :: r).length = [x].length + r.length by simp; omega]
    exact this
theorem srt_length (lt : Nat → Nat → Bool) (l : List Nat) : (srt lt l).length = l.length := by
  unfold srt
  suffices h : ∀ (r a : List Nat), (r.foldl (fun a x => insL lt x a) a).length = a.length + r.length by simpa using h l []
  intro r
  induction r with
  | nil => intro a; rfl
  | cons x r ih => intro a; rw [List.foldl_cons, ih, insL_length, List.length_cons]; omega

end Go.Proofs.Ytgjnfajdejkkjaa.VG
