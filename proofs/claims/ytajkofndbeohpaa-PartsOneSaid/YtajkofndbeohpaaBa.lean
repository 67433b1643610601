/-
  Bits, plain: rows of bits packed into bytes, most significant first. No program in sight.
-/
import Derived.IntWalk
namespace Go.Proofs.Ytajkofndbeohpaa.VG
set_option linter.unusedSimpArgs false
set_option linter.unusedVariables false

/-- The number that bits write, the first one uppermost. -/
def ofB (l : List Bool) : Nat := l.foldl (fun a b => 2 * a + b.toNat) 0

theorem foldl_ofB (l : List Bool) : ∀ a, l.foldl (fun a b => 2 * a + b.toNat) a = a * 2 ^ l.length + ofB l := by
  induction l with
  | nil => intro a; simp [ofB]
  | cons b r ih =>
    intro a
    simp only [ofB, List.foldl_cons, List.length_cons]
    rw [ih, ih (2 * 0 + b.toNat), Nat.pow_succ]
    rw [Nat.add_mul, Nat.mul_zero, Nat.zero_add, ← Nat.add_assoc]
    congr 2
    rw [Nat.mul_comm 2 a, Nat.mul_assoc, Nat.mul_comm 2]

theorem ofB_snoc (l : List Bool) (b : Bool) : ofB (l ++ [b]) = 2 * ofB l + b.toNat := by simp [ofB]
theorem ofB_append (l m : List Bool) : ofB (l ++ m) = ofB l * 2 ^ m.length + ofB m := by
  conv => lhs; unfold ofB
  rw [List.foldl_append, foldl_ofB]
  rfl
theorem ofB_nil : ofB [] = 0 := rfl
theorem ofB_zeros (n : Nat) : ofB (List.replicate n false) = 0 := by
  induction n with
  | zero => rfl
  | succ n ih => rw [List.replicate_succ', ofB_snoc, ih]; rfl
theorem ofB_lt (l : List Bool) : ofB l < 2 ^ l.length := by
  rw [← List.reverse_reverse l]
  induction l.reverse with
  | nil => simp [ofB]
  | cons b r ih =>
    rw [List.reverse_cons, ofB_snoc, List.length_append, List.length_singleton, Nat.pow_succ]
    simp only [List.length_reverse] at ih ⊢
    cases b <;> simp <;> omega

/-- The lower digits of a number, as so many bits. -/
def toB (v : Nat) : Nat → List Bool
  | 0 => []
  | n + 1 => v.testBit n :: toB v n

theorem toB_length (v n : Nat) : (toB v n).length = n := by
  induction n with
  | zero => rfl
  | succ n ih => simp [toB, ih]

theorem ofB_toB (v n : Nat) : ofB (toB v n) = v % 2 ^ n := by
  induction n with
  | zero => simp [toB, ofB, Nat.mod_one]
  | succ n ih =>
    have : toB v (n + 1) = [v.testBit n] ++ toB v n := rfl
    rw [this, ofB_append, toB_length, ih]
    have h1 : v % 2 ^ (n + 1) = v % 2 ^ n + 2 ^ n * (v / 2 ^ n % 2) := by rw [Nat.pow_succ, Nat.mod_mul]
    have h2 : (v.testBit n).toNat = v / 2 ^ n % 2 := by rw [Nat.toNat_testBit]
    rw [h1, ← h2]
    simp [ofB]
    rw [Nat.mul_comm, Nat.add_comm]

/-- Byte j of packed bits. -/
def byteAt (bs : List Bool) (j : Nat) : Nat := ofB ((bs.drop (8 * j)).take 8) * 2 ^ (8 - ((bs.drop (8 * j)).take 8).length)

def packB (bs : List Bool) : List Nat := (List.range ((bs.length + 7) / 8)).map (byteAt bs)

theorem packB_length (bs : List Bool) : (packB bs).length = (bs.length + 7) / 8 := by simp [packB]

theorem byteAt_lt (bs : List Bool) (j : Nat) : byteAt bs j < 256 := by
  unfold byteAt
  generalize hl : (bs.drop (8 * j)).take 8 = l
  have h8 : l.length ≤ 8 := by rw [← hl]; simp; omega
  have h := ofB_lt l
  calc ofB l * 2 ^ (8 - l.length) < 2 ^ l.length * 2 ^ (8 - l.length) := Nat.mul_lt_mul_of_pos_right h (Nat.two_pow_pos _)
    _ = 2 ^ 8 := by rw [← Nat.pow_add]; congr 1; omega
    _ = 256 := rfl

theorem byteAt_snoc_other (bs : List Bool) (b : Bool) (j : Nat) (h : j ≠ bs.length / 8) : byteAt (bs ++ [b]) j = byteAt bs j := by
  unfold byteAt
  by_cases hj : bs.length < 8 * j
  · have e1 : (bs ++ [b]).drop (8 * j) = [] := by rw [List.drop_eq_nil_iff]; simp; omega
    have e2 : bs.drop (8 * j) = [] := by rw [List.drop_eq_nil_iff]; omega
    rw [e1, e2]
  · have hle : 8 * j ≤ bs.length := by omega
    have h8 : 8 * j + 8 ≤ bs.length := by omega
    have e : ((bs ++ [b]).drop (8 * j)).take 8 = (bs.drop (8 * j)).take 8 := by
      rw [List.drop_append_of_le_length hle, List.take_append_of_le_length (by simp; omega)]
    rw [e]

theorem byteAt_snoc_self (bs : List Bool) (b : Bool) : byteAt (bs ++ [b]) (bs.length / 8) = byteAt bs (bs.length / 8) ||| (b.toNat * 2 ^ (7 - bs.length % 8)) := by
  unfold byteAt
  have hle : 8 * (bs.length / 8) ≤ bs.length := by omega
  generalize hc : bs.drop (8 * (bs.length / 8)) = c
  have hcl : c.length = bs.length % 8 := by rw [← hc]; simp; omega
  have e1 : ((bs ++ [b]).drop (8 * (bs.length / 8))).take 8 = c ++ [b] := by
    rw [List.drop_append_of_le_length hle, hc, List.take_of_length_le (by simp; omega)]
  have e2 : c.take 8 = c := List.take_of_length_le (by omega)
  rw [e1, e2, ofB_snoc, ← hcl]
  have hlt : c.length < 8 := by omega
  have e3 : 8 - (c ++ [b]).length = 7 - c.length := by simp
  have e4 : 2 ^ (8 - c.length) = 2 * 2 ^ (7 - c.length) := by
    rw [show 8 - c.length = (7 - c.length) + 1 by omega, Nat.pow_succ, Nat.mul_comm]
  rw [e3]
  have e5 : ofB c * 2 ^ (8 - c.length) = 2 ^ (8 - c.length) * ofB c := Nat.mul_comm _ _
  rw [e5, ← Nat.two_pow_add_eq_or_of_lt]
  · rw [e4, Nat.add_mul]
    congr 1
    rw [Nat.mul_comm 2 (ofB c), Nat.mul_assoc, Nat.mul_comm]
  · rw [e4]
    have := Nat.two_pow_pos (7 - c.length)
    cases b <;> simp <;> omega

theorem packB_snoc (bs : List Bool) (b : Bool) : packB (bs ++ [b]) = (if bs.length % 8 = 0 then packB bs ++ [0] else packB bs).set (bs.length / 8) (byteAt (bs ++ [b]) (bs.length / 8)) := by
  apply List.ext_getElem
  · split <;> simp [packB_length] <;> omega
  · intro j h1 h2
    simp only [packB_length, List.length_append, List.length_singleton] at h1
    have hg : (packB (bs ++ [b]))[j]'(by simpa [packB_length] using h1) = byteAt (bs ++ [b]) j := by simp [packB]
    rw [hg, List.getElem_set]
    split
    · rename_i h; rw [h]
    · rename_i h
      rw [byteAt_snoc_other bs b j (fun e => h e.symm)]
      split
      · rename_i h8
        rw [List.getElem_append_left (by rw [packB_length]; omega)]
        simp [packB]
      · simp [packB]

theorem byteAt_zero (bs : List Bool) (h : bs.length % 8 = 0) : byteAt bs (bs.length / 8) = 0 := by
  unfold byteAt
  have : bs.drop (8 * (bs.length / 8)) = [] := by rw [List.drop_eq_nil_iff]; omega
  rw [this]; simp [ofB]

theorem toB_get (v : Nat) : ∀ (n i : Nat), i < n → (toB v n)[i]? = some (v.testBit (n - 1 - i))
  | 0, i, h => by omega
  | n + 1, 0, h => by simp [toB]
  | n + 1, i + 1, h => by
    rw [toB, List.getElem?_cons_succ, toB_get v n i (by omega)]
    congr 2; omega

theorem toB_take (v n j : Nat) (h0 : 0 < j) (h : j ≤ n) : (toB v n).take (n - (j - 1)) = (toB v n).take (n - j) ++ [v.testBit (j - 1)] := by
  have hg := toB_get v n (n - j) (by omega)
  rw [show n - 1 - (n - j) = j - 1 by omega] at hg
  rw [show n - (j - 1) = (n - j) + 1 by omega, List.take_add_one, hg]
  rfl

/-! ### Reading -/
/-- Bit i of bytes. -/
def rdb (l : List Nat) (i : Nat) : Bool := (l.getD (i / 8) 0).testBit (7 - i % 8)
def rbits (l : List Nat) (i n : Nat) : List Bool := (List.range n).map fun j => rdb l (i + j)

theorem rbits_length (l : List Nat) (i n : Nat) : (rbits l i n).length = n := by simp [rbits]
theorem rbits_succ (l : List Nat) (i n : Nat) : rbits l i (n + 1) = rbits l i n ++ [rdb l (i + n)] := by simp [rbits, List.range_succ]

/-- Get: what it returns, how far it is, its error. -/
def rGet (l : List Nat) (p : Nat) (e : Int) (n : Int) : Nat × Nat × Int :=
  if e ≠ 0 then (0, p, e) else if n < 0 ∨ 64 < n then (0, p, 1) else if 8 * l.length < p + n.toNat then (0, p, 3) else (ofB (rbits l p n.toNat), p + n.toNat, 0)

def unF (l : List Nat) (p m : Nat) : Nat → Nat → Nat × Nat × Int
  | 0, _ => (0, p, 3)
  | f + 1, z => if p + z = 8 * l.length then (0, p, 3) else if rdb l (p + z) then (z, p + z + 1, 0) else if z = m then (0, p, 2) else unF l p m f (z + 1)

def rUnary (l : List Nat) (p : Nat) (e : Int) (most : Int) : Nat × Nat × Int :=
  if e ≠ 0 then (0, p, e) else unF l p most.toNat (8 * l.length - p + 1) 0

def rEnd (p : Nat) : Nat := (p + 7) / 8 * 8

def rAlign (l : List Nat) (p : Nat) (e : Int) : Nat × Int :=
  if e ≠ 0 then (p, e) else if (List.range (rEnd p - p)).any (fun j => rdb l (p + j)) then (p, 2) else (rEnd p, 0)

end Go.Proofs.Ytajkofndbeohpaa.VG
