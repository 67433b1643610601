/-
  Long: plain: predictions from a lag before.
-/
import Derived.Test.YtdpnaaggjgmaiaaHp
namespace Go.Proofs.Ytdpnaaggjgmaiaa.VG
open Go
set_option linter.unusedSimpArgs false
set_option linter.unusedVariables false

def wideB (x : Int) : Bool := decide (-1073741824 ≤ x) && decide (x < 1073741824)
theorem wideB_iff {x : Int} : wideB x = true ↔ -1073741824 ≤ x ∧ x < 1073741824 := by simp [wideB]
def allW (l : List Int) : Bool := l.all wideB
theorem allW_gi {l : List Int} (h : allW l = true) (i : Nat) (hi : i < l.length) : -1073741824 ≤ gi l i ∧ gi l i < 1073741824 :=
  wideB_iff.1 (List.all_eq_true.1 h _ (gi_mem l i hi))
theorem allW_take {l : List Int} {i : Nat} (h : allW (l.take i) = true) (hi : i < l.length) : allW (l.take (i + 1)) = wideB (gi l i) := by
  rw [gi_take_snoc l i hi, allW, List.all_append]
  simp only [allW] at h
  simp [h]
theorem allW_not {l : List Int} {i : Nat} (hi : i < l.length) (h : wideB (gi l i) = false) : allW l = false := by
  rw [← Bool.not_eq_true]
  intro h'
  have := List.all_eq_true.1 h' _ (gi_mem l i hi)
  rw [h] at this; cases this

/-- Three taps. -/
def Taps (t : List Int) : Prop := t.length = 3
def tapV (t : List Int) : Value := .agg (intsV t).toArray
def tapOk (x : Int) : Bool := decide (-64 ≤ x) && decide (x ≤ 64)
def mayB (lag : Int) (t : List Int) : Bool := decide (2 ≤ lag) && decide (lag ≤ 1024) && t.all tapOk

def term (l : List Int) (n lag : Int) (t : List Int) (i : Nat) : Int := if 0 ≤ n - lag - 1 + i then gi t i * gi l (n - lag - 1 + i).toNat else 0
def psum (l : List Int) (n lag : Int) (t : List Int) : Nat → Int
  | 0 => 0
  | i + 1 => psum l n lag t i + term l n lag t i
def guess (l : List Int) (n lag : Int) (t : List Int) : Int := psum l n lag t 3 / 64

theorem mul_bd {a b A B : Int} (h0 : -A ≤ a) (h1 : a ≤ A) (h2 : -B ≤ b) (h3 : b ≤ B) : -(A * B) ≤ a * b ∧ a * b ≤ A * B := by
  have h6 : (a * b).natAbs ≤ (A * B).natAbs := by
    rw [Int.natAbs_mul, Int.natAbs_mul]
    exact Nat.mul_le_mul (by omega) (by omega)
  have h7 : 0 ≤ A * B := Int.mul_nonneg (by omega) (by omega)
  omega

theorem gi_nonneg (l : List Int) (i : Nat) (h : l.length ≤ i) : gi l i = 0 := by simp [gi, List.getElem?_eq_none h]

/-- What the taps may be. -/
def TapOk (t : List Int) : Prop := Taps t ∧ ∀ i, i < 3 → -64 ≤ gi t i ∧ gi t i ≤ 64
def Wides (l : List Int) (n : Nat) : Prop := ∀ i, i < n → -1073741824 ≤ gi l i ∧ gi l i < 1073741824

theorem term_bd {l : List Int} {n : Nat} {lag : Int} {t : List Int} (ht : TapOk t) (hl : Wides l n) (hlag : 2 ≤ lag) (i : Nat) (hi : i < 3) : -68719476736 ≤ term l n lag t i ∧ term l n lag t i ≤ 68719476736 := by
  unfold term
  split
  · have h1 := ht.2 i hi
    have h2 := hl ((n : Int) - lag - 1 + i).toNat (by omega)
    exact mul_bd h1.1 h1.2 (B := 1073741824) (by omega) (by omega)
  · omega
theorem psum_bd {l : List Int} {n : Nat} {lag : Int} {t : List Int} (ht : TapOk t) (hl : Wides l n) (hlag : 2 ≤ lag) : ∀ i : Nat, i ≤ 3 → -(68719476736 * (i : Int)) ≤ psum l n lag t i ∧ psum l n lag t i ≤ 68719476736 * (i : Int)
  | 0, _ => by simp [psum]
  | i + 1, h => by
    have h1 := psum_bd ht hl hlag i (by omega)
    have h2 := term_bd ht hl hlag i (by omega)
    simp only [psum]
    omega
theorem guess_bd {l : List Int} {n : Nat} {lag : Int} {t : List Int} (ht : TapOk t) (hl : Wides l n) (hlag : 2 ≤ lag) : -3221225472 ≤ guess l n lag t ∧ guess l n lag t ≤ 3221225472 := by
  have := psum_bd ht hl hlag 3 (by omega)
  unfold guess
  omega
theorem psum_congr {l m : List Int} {n : Nat} {lag : Int} {t : List Int} (hlag : 2 ≤ lag) (h : ∀ i, i < n → gi l i = gi m i) : ∀ i : Nat, i ≤ 3 → psum l n lag t i = psum m n lag t i
  | 0, _ => rfl
  | i + 1, hi => by
    simp only [psum]
    rw [psum_congr hlag h i (by omega)]
    congr 1
    unfold term
    split
    · rw [h _ (by omega)]
    · rfl
theorem guess_congr {l m : List Int} {n : Nat} {lag : Int} {t : List Int} (hlag : 2 ≤ lag) (h : ∀ i, i < n → gi l i = gi m i) : guess l n lag t = guess m n lag t := by
  unfold guess; rw [psum_congr hlag h 3 (by omega)]

def restL (l : List Int) (lag : Int) (t : List Int) : List Int := (List.range l.length).map fun n => gi l n - guess l n lag t
theorem restL_len (l : List Int) (lag : Int) (t : List Int) : (restL l lag t).length = l.length := by simp [restL]
theorem restL_gi (l : List Int) (lag : Int) (t : List Int) (i : Nat) (h : i < l.length) : gi (restL l lag t) i = gi l i - guess l i lag t := by
  simp [restL, gi, h]
/-- Rest: what it returns, its error. -/
def restS (l : List Int) (lag : Int) (t : List Int) : List Int × Int :=
  if mayB lag t = false then ([], 1) else if allW l = false then ([], 6) else if allW (restL l lag t) = false then ([], 6) else (restL l lag t, 0)

/-- The row so far, made longer by one. -/
def backF (lag : Int) (t : List Int) (row : List Int) : List Int → Option (List Int)
  | [] => some row
  | r :: rs => if wideB (r + guess row row.length lag t) then backF lag t (row ++ [r + guess row row.length lag t]) rs else none
def backS (l : List Int) (lag : Int) (t : List Int) : List Int × Int :=
  if mayB lag t = false then ([], 1) else if allW l = false then ([], 6) else match backF lag t [] l with
    | none => ([], 6)
    | some m => (m, 0)

theorem drop_gi (l : List Int) (i : Nat) (h : i < l.length) : l.drop i = gi l i :: l.drop (i + 1) := by
  rw [List.drop_eq_getElem_cons h]
  simp [gi, h]

end Go.Proofs.Ytdpnaaggjgmaiaa.VG
