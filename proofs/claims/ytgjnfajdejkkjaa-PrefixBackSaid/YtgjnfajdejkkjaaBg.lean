/-
  Bits, plain: rows of bits packed into bytes, most significant first. No program in sight (and what goes with it: parts Ba Bb Bc Bd Be Bf Bg).
-/
import Derived.IntWalk
import Derived.Test.YtgjnfajdejkkjaaVgN
import Derived.Test.YtgjnfajdejkkjaaIr
import Derived.Laws.Strings
import Derived.Test.YtgjnfajdejkkjaaLk

/-! ## Bits, plain: rows of bits packed into bytes, most significant first. No program in sight. -/
namespace Go.Proofs.Ytgjnfajdejkkjaa.VG
set_option linter.unusedSimpArgs false
set_option linter.unusedVariables false
set_option maxRecDepth 20000

/-- The number that bits write, the first one uppermost. -/
def ofB (l : List Bool) : Nat := l.foldl (fun a b => 2 * a + b.toNat) 0

theorem foldl_ofB (l : List Bool) : ∀ a, l.foldl (fun a b => 2 * a + b.toNat) a = a * 2 ^ l.length + ofB l := by
  induction l with
  | nil => intro a; simp [ofB]
  | cons b r ih =>
    intro a
    simp only [ofB, List.foldl_cons, List.length_cons]
    rw [ih, ih (2 * 0 + b.toNat), Nat.pow_succ]
    rw [Nat.add_mul, Nat.mul_zero, Nat.zero_add, ← Nat.add_assoc]
    congr 2
    rw [Nat.mul_comm 2 a, Nat.mul_assoc, Nat.mul_comm 2]

theorem ofB_snoc (l : List Bool) (b : Bool) : ofB (l ++ [b]) = 2 * ofB l + b.toNat := by simp [ofB]
theorem ofB_append (l m : List Bool) : ofB (l ++ m) = ofB l * 2 ^ m.length + ofB m := by
  conv => lhs; unfold ofB
  rw [List.foldl_append, foldl_ofB]
  rfl
theorem ofB_nil : ofB [] = 0 := rfl
theorem ofB_zeros (n : Nat) : ofB (List.replicate n false) = 0 := by
  induction n with
  | zero => rfl
  | succ n ih => rw [List.replicate_succ', ofB_snoc, ih]; rfl
theorem ofB_lt (l : List Bool) : ofB l < 2 ^ l.length := by
  rw [← List.reverse_reverse l]
  induction l.reverse with
  | nil => simp [ofB]
  | cons b r ih =>
    rw [List.reverse_cons, ofB_snoc, List.length_append, List.length_singleton, Nat.pow_succ]
    simp only [List.length_reverse] at ih ⊢
    cases b <;> simp <;> omega

/-- The lower digits of a number, as so many bits. -/
def toB (v : Nat) : Nat → List Bool
  | 0 => []
  | n + 1 => v.testBit n :: toB v n

theorem toB_length (v n : Nat) : (toB v n).length = n := by
  induction n with
  | zero => rfl
  | succ n ih => simp [toB, ih]

theorem ofB_toB (v n : Nat) : ofB (toB v n) = v % 2 ^ n := by
  induction n with
  | zero => simp [toB, ofB, Nat.mod_one]
  | succ n ih =>
    have : toB v (n + 1) = [v.testBit n] ++ toB v n := rfl
    rw [this, ofB_append, toB_length, ih]
    have h1 : v % 2 ^ (n + 1) = v % 2 ^ n + 2 ^ n * (v / 2 ^ n % 2) := by rw [Nat.pow_succ, Nat.mod_mul]
    have h2 : (v.testBit n).toNat = v / 2 ^ n % 2 := by rw [Nat.toNat_testBit]
    rw [h1, ← h2]
    simp [ofB]
    rw [Nat.mul_comm, Nat.add_comm]

/-- Byte j of packed bits. -/
def byteAt (bs : List Bool) (j : Nat) : Nat := ofB ((bs.drop (8 * j)).take 8) * 2 ^ (8 - ((bs.drop (8 * j)).take 8).length)

def packB (bs : List Bool) : List Nat := (List.range ((bs.length + 7) / 8)).map (byteAt bs)

theorem packB_length (bs : List Bool) : (packB bs).length = (bs.length + 7) / 8 := by simp [packB]

theorem byteAt_lt (bs : List Bool) (j : Nat) : byteAt bs j < 256 := by
  unfold byteAt
  generalize hl : (bs.drop (8 * j)).take 8 = l
  have h8 : l.length ≤ 8 := by rw [← hl]; simp; omega
  have h := ofB_lt l
  calc ofB l * 2 ^ (8 - l.length) < 2 ^ l.length * 2 ^ (8 - l.length) := Nat.mul_lt_mul_of_pos_right h (Nat.two_pow_pos _)
    _ = 2 ^ 8 := by rw [← Nat.pow_add]; congr 1; omega
    _ = 256 := rfl

theorem byteAt_snoc_other (bs : List Bool) (b : Bool) (j : Nat) (h : j ≠ bs.length / 8) : byteAt (bs ++ [b]) j = byteAt bs j := by
  unfold byteAt
  by_cases hj : bs.length < 8 * j
  · have e1 : (bs ++ [b]).drop (8 * j) = [] := by rw [List.drop_eq_nil_iff]; simp; omega
    have e2 : bs.drop (8 * j) = [] := by rw [List.drop_eq_nil_iff]; omega
    rw [e1, e2]
  · have hle : 8 * j ≤ bs.length := by omega
    have h8 : 8 * j + 8 ≤ bs.length := by omega
    have e : ((bs ++ [b]).drop (8 * j)).take 8 = (bs.drop (8 * j)).take 8 := by
      rw [List.drop_append_of_le_length hle, List.take_append_of_le_length (by simp; omega)]
    rw [e]

theorem byteAt_snoc_self (bs : List Bool) (b : Bool) : byteAt (bs ++ [b]) (bs.length / 8) = byteAt bs (bs.length / 8) ||| (b.toNat * 2 ^ (7 - bs.length % 8)) := by
  unfold byteAt
  have hle : 8 * (bs.length / 8) ≤ bs.length := by omega
  generalize hc : bs.drop (8 * (bs.length / 8)) = c
  have hcl : c.length = bs.length % 8 := by rw [← hc]; simp; omega
  have e1 : ((bs ++ [b]).drop (8 * (bs.length / 8))).take 8 = c ++ [b] := by
    rw [List.drop_append_of_le_length hle, hc, List.take_of_length_le (by simp; omega)]
  have e2 : c.take 8 = c := List.take_of_length_le (by omega)
  rw [e1, e2, ofB_snoc, ← hcl]
  have hlt : c.length < 8 := by omega
  have e3 : 8 - (c ++ [b]).length = 7 - c.length := by simp
  have e4 : 2 ^ (8 - c.length) = 2 * 2 ^ (7 - c.length) := by
    rw [show 8 - c.length = (7 - c.length) + 1 by omega, Nat.pow_succ, Nat.mul_comm]
  rw [e3]
  have e5 : ofB c * 2 ^ (8 - c.length) = 2 ^ (8 - c.length) * ofB c := Nat.mul_comm _ _
  rw [e5, ← Nat.two_pow_add_eq_or_of_lt]
  · rw [e4, Nat.add_mul]
    congr 1
    rw [Nat.mul_comm 2 (ofB c), Nat.mul_assoc, Nat.mul_comm]
  · rw [e4]
    have := Nat.two_pow_pos (7 - c.length)
    cases b <;> simp <;> omega

theorem packB_snoc (bs : List Bool) (b : Bool) : packB (bs ++ [b]) = (if bs.length % 8 = 0 then packB bs ++ [0] else packB bs).set (bs.length / 8) (byteAt (bs ++ [b]) (bs.length / 8)) := by
  apply List.ext_getElem
  · split <;> simp [packB_length] <;> omega
  · intro j h1 h2
    simp only [packB_length, List.length_append, List.length_singleton] at h1
    have hg : (packB (bs ++ [b]))[j]'(by simpa [packB_length] using h1) = byteAt (bs ++ [b]) j := by simp [packB]
    rw [hg, List.getElem_set]
    split
    · rename_i h; rw [h]
    · rename_i h
      rw [byteAt_snoc_other bs b j (fun e => h e.symm)]
      split
      · rename_i h8
        rw [List.getElem_append_left (by rw [packB_length]; omega)]
        simp [packB]
      · simp [packB]

theorem byteAt_zero (bs : List Bool) (h : bs.length % 8 = 0) : byteAt bs (bs.length / 8) = 0 := by
  unfold byteAt
  have : bs.drop (8 * (bs.length / 8)) = [] := by rw [List.drop_eq_nil_iff]; omega
  rw [this]; simp [ofB]

theorem toB_get (v : Nat) : ∀ (n i : Nat), i < n → (toB v n)[i]? = some (v.testBit (n - 1 - i))
  | 0, i, h => by omega
  | n + 1, 0, h => by simp [toB]
  | n + 1, i + 1, h => by
    rw [toB, List.getElem?_cons_succ, toB_get v n i (by omega)]
    congr 2; omega

theorem toB_take (v n j : Nat) (h0 : 0 < j) (h : j ≤ n) : (toB v n).take (n - (j - 1)) = (toB v n).take (n - j) ++ [v.testBit (j - 1)] := by
  have hg := toB_get v n (n - j) (by omega)
  rw [show n - 1 - (n - j) = j - 1 by omega] at hg
  rw [show n - (j - 1) = (n - j) + 1 by omega, List.take_add_one, hg]
  rfl

/-! ### Reading -/
/-- Bit i of bytes. -/
def rdb (l : List Nat) (i : Nat) : Bool := (l.getD (i / 8) 0).testBit (7 - i % 8)
def rbits (l : List Nat) (i n : Nat) : List Bool := (List.range n).map fun j => rdb l (i + j)

theorem rbits_length (l : List Nat) (i n : Nat) : (rbits l i n).length = n := by simp [rbits]
theorem rbits_succ (l : List Nat) (i n : Nat) : rbits l i (n + 1) = rbits l i n ++ [rdb l (i + n)] := by simp [rbits, List.range_succ]

/-- Get: what it returns, how far it is, its error. -/
def rGet (l : List Nat) (p : Nat) (e : Int) (n : Int) : Nat × Nat × Int :=
  if e ≠ 0 then (0, p, e) else if n < 0 ∨ 64 < n then (0, p, 1) else if 8 * l.length < p + n.toNat then (0, p, 3) else (ofB (rbits l p n.toNat), p + n.toNat, 0)

def unF (l : List Nat) (p m : Nat) : Nat → Nat → Nat × Nat × Int
  | 0, _ => (0, p, 3)
  | f + 1, z => if p + z = 8 * l.length then (0, p, 3) else if rdb l (p + z) then (z, p + z + 1, 0) else if z = m then (0, p, 2) else unF l p m f (z + 1)

def rUnary (l : List Nat) (p : Nat) (e : Int) (most : Int) : Nat × Nat × Int :=
  if e ≠ 0 then (0, p, e) else unF l p most.toNat (8 * l.length - p + 1) 0

def rEnd (p : Nat) : Nat := (p + 7) / 8 * 8

def rAlign (l : List Nat) (p : Nat) (e : Int) : Nat × Int :=
  if e ≠ 0 then (p, e) else if (List.range (rEnd p - p)).any (fun j => rdb l (p + j)) then (p, 2) else (rEnd p, 0)

end Go.Proofs.Ytgjnfajdejkkjaa.VG

/-! ## Bits: the writer: what each of its calls comes to. -/
namespace Go.Proofs.Ytgjnfajdejkkjaa.VG
open Go
set_option linter.unusedSimpArgs false
set_option linter.unusedVariables false
set_option maxRecDepth 20000

def bytesV (l : List Nat) : List Value := l.map fun (n : Nat) => Value.int .u8 n

/-- The writer at block b holds the bits bs; its blocks are those of F. -/
structure Wr (w : World) (F : Nat → Prop) (b : Nat) (bs : List Bool) : Prop where
  lt : ∀ k, F k → k < w.heap.size
  me : F b
  is : ∃ s el, w.heap[b]? = some (.cells #[s, .int .i64 bs.length] el (0, 0)) ∧ w.ownsRow 0 5 1 s (packB bs).length (bytesV (packB bs)) ∧ ∀ k, s.ownBlock = some k → F k ∧ k ≠ b

theorem Wr.mod {w w' : World} {F S : Nat → Prop} {b : Nat} {bs : List Bool} (h : Wr w F b bs) (m : Mod S w w') (hd : ∀ k, F k → ¬ S k) : Wr w' F b bs := by
  obtain ⟨s, el, h1, h2, h3⟩ := h.is
  exact ⟨fun k hk => Nat.lt_of_lt_of_le (h.lt k hk) m.size, h.me, s, el, m.heap h1 (hd b h.me), m.owns h2 (fun k hk => hd k (h3 k hk).1), h3⟩

/-- What a call leaves of a writer. -/
def WrAfter (w : World) (F : Nat → Prop) (b : Nat) (bs : List Bool) (w' : World) : Prop :=
  ∃ F', Wr w' F' b bs ∧ Mod F w w' ∧ ∀ k, F' k → F k ∨ w.heap.size ≤ k

set_option maxRecDepth 20000 in
theorem slT8 : SlT Try.prog 38 5 1 1 := ⟨by kernel_rfl, ⟨_, _, rfl, rfl, rfl, rfl, rfl⟩, by omega⟩

/-- Between the two steps of 'bit': the bytes have room for one more bit. -/
structure BitMid (w : World) (F : Nat → Prop) (b : Nat) (bs : List Bool) (el : TypeId) (x : Bool) (env' : Env) (w' : World) : Prop where
  e0 : env' 0 = .pointer (some ⟨b, 0, none⟩)
  e1 : env' 1 = .int .u8 x.toNat
  mod : Mod F w w'
  is : ∃ s', w'.heap[b]? = some (.cells #[s', .int .i64 bs.length] el (0, 0)) ∧ w'.ownsRow 0 5 1 s' (if bs.length % 8 = 0 then packB bs ++ [0] else packB bs).length (bytesV (if bs.length % 8 = 0 then packB bs ++ [0] else packB bs)) ∧
    ∀ k, s'.ownBlock = some k → (F k ∨ w.heap.size ≤ k) ∧ k ≠ b

theorem own_one {w : World} {base e size : Nat} {v : Value} {n : Nat} {xs : List Value} (h : w.ownsRow base e size v n xs) : one1 v = true := by
  rcases h.2 with ⟨rfl, _⟩ | ⟨g, cap, cur, rfl, _⟩ <;> rfl

theorem own_lt {w : World} {base e size : Nat} {v : Value} {n : Nat} {xs : List Value} (h : w.ownsRow base e size v n xs) {k : Nat} (hk : v.ownBlock = some k) : k < w.heap.size := (h.lt k hk).2

set_option maxHeartbeats 1000000 in
theorem bit_c {w : World} {F : Nat → Prop} {b : Nat} {bs : List Bool} (h : Wr w F b bs) (hlen : bs.length < 1099511627776) (x : Bool) :
    Calls Try.prog 54 [.pointer (some ⟨b, 0, none⟩), .int .u8 x.toNat].toArray w (Ret fun v w' => v = .tuple #[] ∧ WrAfter w F b (bs ++ [x]) w') := by
  refine F_sound c54 (by simp [fc54]) ?_
  obtain ⟨s, el, hb, hs, hF⟩ := h.is
  have hc0 := cell_blk hb 0
  have hc1 := cell_blk hb 1
  have hpl := packB_length bs
  simp [fc54, s54, hc0, hc1]
  have hn8 : ((bs.length : Int).tmod 8 == 0) = decide (bs.length % 8 = 0) := by
    rw [tmod_nn (by omega), Bool.eq_iff_iff]; simp; omega
  refine ite_cut (t := decide (bs.length % 8 = 0)) (BitMid w F b bs el x) ?_ ?_ ?_ ?_
  · simp [hc1, hn8]
  · intro ht
    have ht : bs.length % 8 = 0 := by simpa using ht
    simp [hc0]
    refine app1_r slT8 hs (u := .int .u8 0) (by simp) (by omega) (by omega) (by unfold maxLen; omega) rfl (by simp) (by simp) (by simp) ?_
    intro vb v' w1 w' _ hs' hmod hnew _
    have hbs : s.ownBlock ≠ some b := fun e => (hF b e).2 rfl
    have hb' := hmod.heap hb hbs
    have hvb : ∀ k, v'.ownBlock = some k → (F k ∨ w.heap.size ≤ k) ∧ k ≠ b := fun k hk => by
      rcases hnew k hk with h1 | h1
      · exact ⟨.inl (hF k h1).1, (hF k h1).2⟩
      · exact ⟨.inr h1, by have := h.lt b h.me; omega⟩
    refine ⟨by simp, ?_⟩
    simp
    refine st_r (b := b) (o := 0) (v := v') (by simp) (by simp) hb' (by simp) (own_one hs') ?_
    intro w2 hb2 hm2 hsz2
    refine ⟨by simp, ?_⟩
    refine ⟨by simp, by simp, (hmod.mono fun k _ hk => (hF k hk).1).trans hm2 (fun k _ hk => hk ▸ h.me), v', by simpa using hb2, ?_, hvb⟩
    have := hm2.owns hs' (fun k hk e => (hvb k hk).2 e)
    simpa [ht, bytesV] using this
  · intro ht
    have ht : ¬ bs.length % 8 = 0 := by simpa using ht
    simp only [wp_nil, thn_normal]
    refine ⟨by simp, by simp, Mod.refl _ _, s, hb, by simpa [ht] using hs, fun k hk => ⟨.inl (hF k hk).1, (hF k hk).2⟩⟩
  · rintro env' w' ⟨e0, e1, hm, s', hb', hs', hF'⟩
    generalize hD : (if bs.length % 8 = 0 then packB bs ++ [0] else packB bs) = D at *
    have hDl : bs.length / 8 < D.length := by rw [← hD]; split <;> (try rw [List.length_append]) <;> (try simp only [List.length_singleton]) <;> omega
    have hd0 := cell_blk hb' 0
    have hd1 := cell_blk hb' 1
    obtain ⟨g, cap, cur, hsv, hg0, hg, hnc, hcm, hcs, htake⟩ : ∃ g cap cur, s' = .slice (some ⟨g, 0, none⟩) D.length cap ∧ 0 ≤ g ∧ w'.heap[g]? = some (.cells cur 5 (0, 0)) ∧ D.length ≤ cap ∧ cap ≤ maxLen ∧ cur.size = cap * 1 ∧ cur.toList.take (D.length * 1) = bytesV D := by
      rcases hs'.2 with ⟨_, h0⟩ | h0
      · omega
      · exact h0
    subst hsv
    have hgc := cell_blk hg (bs.length / 8)
    have hsz : bs.length / 8 < cur.size := by omega
    have hbg : b ≠ g := fun e => (hF' g rfl).2 e.symm
    have hval : cur[bs.length / 8]? = some (.int .u8 (byteAt bs (bs.length / 8) : Nat)) := by
      have h1 : (bytesV D)[bs.length / 8]? = some (.int .u8 (byteAt bs (bs.length / 8) : Nat)) := by
        have h2 : D[bs.length / 8]? = some (byteAt bs (bs.length / 8)) := by
          rw [← hD]
          split
          · rename_i h8
            rw [byteAt_zero bs h8, List.getElem?_append_right (by omega)]
            simp [hpl, show bs.length / 8 - (bs.length + 7) / 8 = 0 by omega]
          · simp [packB, show bs.length / 8 < (bs.length + 7) / 8 by omega]
        simp [bytesV, h2]
      rw [← htake] at h1
      rw [← Array.getElem?_toList]
      simp only [List.getElem?_take] at h1
      split at h1
      · exact h1
      · cases h1
    have hw1 : IntKind.i64.wrap ((bs.length : Int) / 8) = (bs.length : Int) / 8 := wrap_i64 (by omega) (by omega)
    have hn1 : ((bs.length : Int) / 8).toNat = bs.length / 8 := by omega
    have hw2 : (bs.length : Int).tdiv 8 = (bs.length : Int) / 8 := tdiv_nn (by omega)
    have hw3 : (bs.length : Int).tmod 8 = (bs.length : Int) % 8 := tmod_nn (by omega)
    have hw4 : IntKind.i64.wrap (7 - (bs.length : Int) % 8) = 7 - (bs.length : Int) % 8 := wrap_i64 (by omega) (by omega)
    have hw5 : shl .u8 (x.toNat : Int) (7 - (bs.length : Int) % 8) = ((x.toNat * 2 ^ (7 - bs.length % 8) : Nat) : Int) := by
      rw [show (7 - (bs.length : Int) % 8) = ((7 - bs.length % 8 : Nat) : Int) by omega, shl_nat _ _ _ (by simp [IntKind.bits]; omega)]
      apply wrap_nat_u8
      have h7 : 2 ^ (7 - bs.length % 8) ≤ 2 ^ 7 := Nat.pow_le_pow_right (by omega) (by omega)
      cases x <;> simp <;> omega
    have hxl : x.toNat * 2 ^ (7 - bs.length % 8) < 256 := by
      have h7 : 2 ^ (7 - bs.length % 8) ≤ 2 ^ 7 := Nat.pow_le_pow_right (by omega) (by omega)
      cases x <;> simp <;> omega
    have hw6 : bitw .or .u8 (byteAt bs (bs.length / 8) : Nat) ((x.toNat * 2 ^ (7 - bs.length % 8) : Nat) : Int) = ((byteAt (bs ++ [x]) (bs.length / 8) : Nat) : Int) := by
      rw [bitw_or (byteAt_lt _ _) hxl, byteAt_snoc_self]
      exact wrap_nat_u8 (by rw [← byteAt_snoc_self]; exact byteAt_lt _ _)
    simp [e0, e1, hd0, hd1, hw1, hw2, hw3, hw4, hn1, hgc, hval]
    refine ⟨⟨by omega, by omega⟩, by omega, ⟨by omega, by omega⟩, ?_⟩
    refine st_r (b := g) (o := bs.length / 8) (c := cur) (el := 5) (v := .int .u8 (byteAt (bs ++ [x]) (bs.length / 8) : Nat)) (by simp [hw1, hw2, hn1]) ?_ hg hsz (by simp) ?_
    · simp only [E.ev, upd_apply]
      simp [e1, hw3, hw4, hw5]
      exact hw6
    intro w2 hg2 hm2 hsz2
    have hb2 := hm2.heap (b := b) hb' hbg
    have hb21 := cell_blk hb2 1
    have hw7 : IntKind.i64.wrap ((bs.length : Int) + 1) = (bs.length : Int) + 1 := wrap_i64 (by omega) (by omega)
    refine ⟨by simp, ?_⟩
    simp [e0, hb21]
    refine st_r (b := b) (o := 1) (v := .int .i64 ((bs.length : Int) + 1)) (by simp [e0]) (by simp [hw7]) hb2 (by simp) (by simp) ?_
    intro w3 hb3 hm3 hsz3
    have hg3 := hm3.heap hg2 (fun e => hbg e.symm)
    refine ⟨by simp, ?_⟩
    have hm23 : Mod (fun k => k = b ∨ k = g) w' w3 := (Mod.drew (Mod.refl _ _)).tr ((hm2.mono fun k _ h => .inr h).trans hm3 (fun k _ h => .inl h))
    have hFg := (hF' g rfl).1
    simp
    refine ⟨fun k => k = b ∨ k = g, ⟨?_, .inl rfl, .slice (some ⟨g, 0, none⟩) D.length cap, el, by simpa using hb3, ?_, ?_⟩, hm.trans hm23 ?_, ?_⟩
    · rintro k (rfl | rfl)
      · exact heap_lt hb3
      · exact heap_lt hg3
    · have hps := packB_snoc bs x
      rw [hD] at hps
      have hpsl : (packB (bs ++ [x])).length = D.length := by rw [hps]; simp
      rw [hpsl]
      refine ⟨by simp [bytesV, hpsl], .inr ⟨g, cap, _, rfl, hg0, hg3, hnc, hcm, by simpa using hcs, ?_⟩⟩
      rw [hps]
      simp only [Array.toList_setIfInBounds, Nat.mul_one, bytesV, List.map_set] at htake ⊢
      rw [List.take_set, htake]
    · intro k hk
      simp [Value.ownBlock] at hk
      subst hk
      exact ⟨.inr rfl, fun e => hbg e.symm⟩
    · rintro k hk (rfl | rfl)
      · exact h.me
      · exact hFg.resolve_right (by omega)
    · rintro k (rfl | rfl)
      · exact .inl h.me
      · exact hFg
theorem WrAfter.refl {w : World} {F : Nat → Prop} {b : Nat} {bs : List Bool} (h : Wr w F b bs) : WrAfter w F b bs w := ⟨F, h, Mod.refl _ _, fun _ h => .inl h⟩

/-- One call after another. -/
theorem WrAfter.step {w w1 w2 : World} {F F1 : Nat → Prop} {b : Nat} {cs : List Bool} (hm : Mod F w w1) (hF : ∀ k, F1 k → F k ∨ w.heap.size ≤ k) (h : WrAfter w1 F1 b cs w2) : WrAfter w F b cs w2 := by
  obtain ⟨F2, h1, h2, h3⟩ := h
  refine ⟨F2, h1, hm.trans h2 (fun k hk h => (hF k h).resolve_right (by omega)), fun k hk => ?_⟩
  rcases h3 k hk with h | h
  · exact hF k h
  · exact .inr (Nat.le_trans hm.size h)

theorem bitarg (v i : Nat) (hv : v < 18446744073709551616) (hi : i ≤ 64) : IntKind.u8.wrap (bitw .and .u64 (shr .u64 v i) 1) = (v.testBit i).toNat := by
  rw [shr_nat _ _ _ (by simpa [IntKind.bits] using hi), bitw_and1 (by have : v / 2 ^ i ≤ v := Nat.div_le_self _ _; simp only [IntKind.bits]; omega), Nat.toNat_testBit]
  exact wrap_nat_u8 (by omega)

theorem shr_small (v n : Nat) (h : v < 2 ^ n) (hn : n ≤ 64) : shr .u64 v n = 0 := by
  rw [shr_nat _ _ _ (by simpa [IntKind.bits] using hn), Nat.div_eq_of_lt h]; rfl

theorem lt_of_pow {v n : Nat} (h : v < 2 ^ n) (hn : n ≤ 64) : v < 18446744073709551616 := by
  have : 2 ^ n ≤ 2 ^ 64 := Nat.pow_le_pow_right (by omega) hn
  omega

set_option maxHeartbeats 1000000 in
theorem put_yes {w : World} {F : Nat → Prop} {b : Nat} {bs : List Bool} (h : Wr w F b bs) (v n : Nat) (hn : n ≤ 64) (hv : v < 2 ^ n) (hlen : bs.length + n < 1099511627776) :
    Calls Try.prog 49 [.pointer (some ⟨b, 0, none⟩), .int .u64 v, .int .i64 n].toArray w (Ret fun r w' => r = .int .i64 0 ∧ WrAfter w F b (bs ++ toB v n) w') := by
  refine F_sound c49 (by simp [fc49]) ?_
  have hv64 := lt_of_pow hv hn
  have hs0 := shr_small v n hv hn
  have hw1 : IntKind.i64.wrap ((n : Int) - 1) = (n : Int) - 1 := wrap_i64 (by omega) (by omega)
  simp [fc49, s49]
  refine ite_r (t := false) ?_ (fun h => by cases h) (fun _ => ?_)
  · simp [hs0]; omega
  simp [hw1]
  refine loop_r (fun m env' w' => m ≤ n ∧ env' 0 = .pointer (some ⟨b, 0, none⟩) ∧ env' 1 = .int .u64 v ∧ env' 7 = .int .i64 ((m : Int) - 1) ∧ WrAfter w F b (bs ++ (toB v n).take (n - m)) w') n ?_ ?_
  · refine ⟨Nat.le_refl _, by simp, by simp, by simp, ?_⟩
    simpa using WrAfter.refl h
  · rintro m env' w' ⟨hm, e0, e1, e7, F1, hW, hM, hF⟩
    simp [e7]
    by_cases h0 : m = 0
    · subst h0
      refine ite_r (t := false) (by simp) (fun h => by cases h) (fun _ => ?_)
      simp
      have : (toB v n).take n = toB v n := List.take_of_length_le (by rw [toB_length]; omega)
      rw [Nat.sub_zero, this] at hW
      exact ⟨F1, hW, hM, hF⟩
    · refine ite_r (t := true) (by simp; omega) (fun _ => ?_) (fun h => by cases h)
      simp
      rw [wp_blk]
      have hb1 := bitarg v (m - 1) hv64 (by omega)
      have hc : ((m : Int) - 1) = ((m - 1 : Nat) : Int) := by omega
      have hw2 : IntKind.i64.wrap ((m : Int) - 1 - 1) = (m : Int) - 1 - 1 := wrap_i64 (by omega) (by omega)
      simp [e1, e7]
      refine ⟨by omega, ?_⟩
      refine call_r _ (bit_c hW (by simp [toB_length]; omega) (v.testBit (m - 1))) (by simp [e0, e1, e7, hc, hb1]) ?_
      rintro r w2 ⟨rfl, hA⟩
      refine ⟨by simp, ?_⟩
      simp [e7, hw2]
      refine ⟨m - 1, by omega, by omega, by simp [e0], by simp [e1], by omega, ?_⟩
      have := WrAfter.step hM hF hA
      rwa [List.append_assoc, ← toB_take v n m (by omega) hm] at this

/-- Put of what may not be put. -/
theorem put_no {w : World} {F : Nat → Prop} {b : Nat} {bs : List Bool} (h : Wr w F b bs) (v : Nat) (n : Int) (hv : v < 18446744073709551616) (hno : ¬ (0 ≤ n ∧ n ≤ 64 ∧ v < 2 ^ n.toNat)) :
    Calls Try.prog 49 [.pointer (some ⟨b, 0, none⟩), .int .u64 v, .int .i64 n].toArray w (Ret fun r w' => r = .int .i64 1 ∧ w' = w) := by
  refine F_sound c49 (by simp [fc49]) ?_
  simp [fc49, s49]
  refine ⟨by omega, ?_⟩
  refine ite_r (t := true) ?_ (fun _ => ?_) (fun h => by cases h)
  · simp
    by_cases h1 : n < 0
    · exact .inl (.inl h1)
    · by_cases h2 : 64 < n
      · exact .inl (.inr h2)
      · refine .inr ?_
        have h3 : 2 ^ n.toNat ≤ v := by omega
        rw [show n = (n.toNat : Int) by omega, shr_nat _ _ _ (by simp [IntKind.bits]; omega)]
        have : 0 < v / 2 ^ n.toNat := Nat.div_pos h3 (Nat.two_pow_pos _)
        omega
  · simp

theorem len_c {w : World} {F : Nat → Prop} {b : Nat} {bs : List Bool} (h : Wr w F b bs) :
    Calls Try.prog 33 [.pointer (some ⟨b, 0, none⟩)].toArray w (Ret fun r w' => r = .int .i64 bs.length ∧ w' = w) := by
  refine F_sound c33 (by simp [fc33]) ?_
  obtain ⟨s, el, hb, hs, hF⟩ := h.is
  have hc1 := cell_blk hb 1
  simp [fc33, s33, hc1]

/-- How many zeros fill the last byte. -/
def padN (n : Nat) : Nat := (8 - n % 8) % 8

/-- A slice in memory of its own, which reads the bytes. -/
def Fresh (w w' : World) (v : Value) (l : List Nat) : Prop := w'.ownsRow w.heap.size 5 1 v l.length (bytesV l) ∧ Mod none' w w'

theorem bytesV_one (l : List Nat) : ∀ y ∈ bytesV l, y.oneCell' = true := by
  intro y hy
  simp only [bytesV, List.mem_map] at hy
  obtain ⟨n, _, rfl⟩ := hy
  rfl

theorem bytes_c {w : World} {F : Nat → Prop} {b : Nat} {bs : List Bool} (h : Wr w F b bs) (hlen : bs.length < 1099511627776) :
    Calls Try.prog 31 [.pointer (some ⟨b, 0, none⟩)].toArray w (Ret fun r w' => Fresh w w' r (packB bs)) := by
  refine F_sound c31 (by simp [fc31]) ?_
  obtain ⟨s, el, hb, hs, hF⟩ := h.is
  have hc0 := cell_blk hb 0
  have hpl := packB_length bs
  simp [fc31, s31, hc0]
  refine app_r slT8 (World.ownsRow_nil w w.heap.size 5 1) (Rd.of_owns hs) (by simp [bytesV]) (bytesV_one _) (Nat.le_refl _) (by omega) (by unfold maxLen; omega) rfl (by simp) ?_
  intro v' w' ho hm _ _
  refine ⟨by simp, ?_⟩
  simp
  exact ⟨by simpa using ho, hm.mono fun k _ h => by simp [Value.ownBlock] at h⟩
end Go.Proofs.Ytgjnfajdejkkjaa.VG

/-! ## Bits: the reader: what each of its calls comes to. -/
namespace Go.Proofs.Ytgjnfajdejkkjaa.VG
open Go
set_option linter.unusedSimpArgs false
set_option linter.unusedVariables false
set_option maxRecDepth 20000

/-- The reader at block b of the bytes l: p bits were read; its error is e. -/
structure Rr (w : World) (F : Nat → Prop) (b : Nat) (l : List Nat) (p : Nat) (e : Int) : Prop where
  lt : ∀ k, F k → k < w.heap.size
  me : F b
  fits : ∀ x ∈ l, x < 256
  le : p ≤ 8 * l.length
  small : l.length ≤ 17592186044416
  is : ∃ s el, w.heap[b]? = some (.cells #[s, .int .i64 p, .int .i64 e] el (0, 0)) ∧ w.ownsRow 0 5 1 s l.length (bytesV l) ∧ ∀ k, s.ownBlock = some k → F k ∧ k ≠ b

theorem Rr.mod {w w' : World} {F S : Nat → Prop} {b : Nat} {l : List Nat} {p : Nat} {e : Int} (h : Rr w F b l p e) (m : Mod S w w') (hd : ∀ k, F k → ¬ S k) : Rr w' F b l p e := by
  obtain ⟨s, el, h1, h2, h3⟩ := h.is
  exact ⟨fun k hk => Nat.lt_of_lt_of_le (h.lt k hk) m.size, h.me, h.fits, h.le, h.small, s, el, m.heap h1 (hd b h.me), m.owns h2 (fun k hk => hd k (h3 k hk).1), h3⟩

/-- What a call leaves of a reader: only its own block may have changed. -/
def RrAfter (w : World) (F : Nat → Prop) (b : Nat) (l : List Nat) (p : Nat) (e : Int) (w' : World) : Prop := Rr w' F b l p e ∧ Mod (fun k => k = b) w w'

theorem byte_at {w : World} {F : Nat → Prop} {v : Value} {n : Nat} {l : List Nat} (h : Rd F w v n (bytesV l)) (i : Nat) (hi : i < l.length) : w.cell? ((slB v).add i) = some (.int .u8 (l.getD i 0 : Nat)) :=
  h.cell i _ (by simp [bytesV, hi])

theorem shr_and1 (x y : Nat) (hx : x < 256) (hy : y ≤ 7) : bitw .and .u8 (shr .u8 x y) 1 = (x.testBit y).toNat := by
  rw [shr_nat _ _ _ (by simp [IntKind.bits]; omega), bitw_and1 (by have : x / 2 ^ y ≤ x := Nat.div_le_self _ _; simp only [IntKind.bits]; omega), Nat.toNat_testBit]

theorem look_c {w : World} {F : Nat → Prop} {b : Nat} {l : List Nat} {p : Nat} {e : Int} (h : Rr w F b l p e) (i : Nat) (hi : i < 8 * l.length) :
    Calls Try.prog 42 [.pointer (some ⟨b, 0, none⟩), .int .i64 i].toArray w (Ret fun r w' => r = .int .u8 (rdb l i).toNat ∧ w' = w) := by
  refine F_sound c42 (by simp [fc42]) ?_
  obtain ⟨s, el, hb, hs, hF⟩ := h.is
  have hsm := h.small
  have hc0 := cell_blk hb 0
  have hrd := Rd.of_owns hs
  have hcell := byte_at hrd (i / 8) (by omega)
  obtain ⟨cap, hv⟩ := hrd.is
  have hp := (hrd.ptr (by simp [bytesV]; omega)).1
  have hw1 : (i : Int).tdiv 8 = (i : Int) / 8 := tdiv_nn (by omega)
  have hw2 : IntKind.i64.wrap ((i : Int) / 8) = (i : Int) / 8 := wrap_i64 (by omega) (by omega)
  have hn1 : ((i : Int) / 8).toNat = i / 8 := by omega
  have hw3 : (i : Int).tmod 8 = (i : Int) % 8 := tmod_nn (by omega)
  have hw4 : IntKind.i64.wrap (7 - (i : Int) % 8) = 7 - (i : Int) % 8 := wrap_i64 (by omega) (by omega)
  have hS : isS s := by rw [hv]; trivial
  have hL : slL s = l.length := by rw [hv]; rfl
  have hby : l.getD (i / 8) 0 < 256 := by
    rw [List.getD_eq_getElem?_getD, List.getElem?_eq_getElem (by omega), Option.getD_some]
    exact h.fits _ (List.getElem_mem _)
  have hfin := shr_and1 (l.getD (i / 8) 0) (7 - i % 8) hby (by omega)
  rw [show ((7 - i % 8 : Nat) : Int) = 7 - (i : Int) % 8 by omega] at hfin
  simp [fc42, s42, hc0, hS, hp, hL, hw1, hw2, hn1, hw3, hw4, hcell]
  refine ⟨⟨by omega, by omega⟩, by omega, ?_⟩
  simpa [rdb] using hfin

theorem left_c {w : World} {F : Nat → Prop} {b : Nat} {l : List Nat} {p : Nat} {e : Int} (h : Rr w F b l p e) :
    Calls Try.prog 41 [.pointer (some ⟨b, 0, none⟩)].toArray w (Ret fun r w' => r = .int .i64 (8 * (l.length : Int) - p) ∧ Mod none' w w') := by
  refine F_sound c41 (by simp [fc41]) ?_
  obtain ⟨s, el, hb, hs, hF⟩ := h.is
  have hsm := h.small
  have hle := h.le
  have hc0 := cell_blk hb 0
  have hc1 := cell_blk hb 1
  obtain ⟨cap, hv⟩ := (Rd.of_owns hs).is
  have hS : isS s := by rw [hv]; trivial
  have hL : slL s = l.length := by rw [hv]; rfl
  have hw1 : IntKind.i64.wrap (8 * (l.length : Int)) = 8 * (l.length : Int) := wrap_i64 (by omega) (by omega)
  have hw2 : IntKind.i64.wrap (8 * (l.length : Int) - (p : Int)) = 8 * (l.length : Int) - (p : Int) := wrap_i64 (by omega) (by omega)
  simp [fc41, s41, hc0, hc1, hS, hL, hw1, hw2]
  exact (Mod.refl _ _).drew

theorem at_c {w : World} {F : Nat → Prop} {b : Nat} {l : List Nat} {p : Nat} {e : Int} (h : Rr w F b l p e) :
    Calls Try.prog 28 [.pointer (some ⟨b, 0, none⟩)].toArray w (Ret fun r w' => r = .int .i64 p ∧ w' = w) := by
  refine F_sound c28 (by simp [fc28]) ?_
  obtain ⟨s, el, hb, hs, hF⟩ := h.is
  have hc1 := cell_blk hb 1
  simp [fc28, s28, hc1]

theorem err_c {w : World} {F : Nat → Prop} {b : Nat} {l : List Nat} {p : Nat} {e : Int} (h : Rr w F b l p e) :
    Calls Try.prog 45 [.pointer (some ⟨b, 0, none⟩)].toArray w (Ret fun r w' => r = .int .i64 e ∧ w' = w) := by
  refine F_sound c45 (by simp [fc45]) ?_
  obtain ⟨s, el, hb, hs, hF⟩ := h.is
  have hc2 := cell_blk hb 2
  simp [fc45, s45, hc2]

/-- The error is set. -/
theorem Rr.setErr {w w' : World} {F : Nat → Prop} {b : Nat} {l : List Nat} {p : Nat} {e e' : Int} {s : Value} {el : TypeId} (h : Rr w F b l p e) (hb : w'.heap[b]? = some (.cells (#[s, .int .i64 p, .int .i64 e].setIfInBounds 2 (.int .i64 e')) el (0, 0)))
    (hs : w.ownsRow 0 5 1 s l.length (bytesV l)) (hF : ∀ k, s.ownBlock = some k → F k ∧ k ≠ b) (hm : Mod (fun k => k = b) w w') : Rr w' F b l p e' :=
  ⟨fun k hk => Nat.lt_of_lt_of_le (h.lt k hk) hm.size, h.me, h.fits, h.le, h.small, s, el, by simpa using hb, hm.owns hs (fun k hk => (hF k hk).2), hF⟩

theorem Rr.setAt {w w' : World} {F : Nat → Prop} {b : Nat} {l : List Nat} {p p' : Nat} {e : Int} {s : Value} {el : TypeId} (h : Rr w F b l p e) (hp : p' ≤ 8 * l.length) (hb : w'.heap[b]? = some (.cells (#[s, .int .i64 p, .int .i64 e].setIfInBounds 1 (.int .i64 p')) el (0, 0)))
    (hs : w.ownsRow 0 5 1 s l.length (bytesV l)) (hF : ∀ k, s.ownBlock = some k → F k ∧ k ≠ b) (hm : Mod (fun k => k = b) w w') : Rr w' F b l p' e :=
  ⟨fun k hk => Nat.lt_of_lt_of_le (h.lt k hk) hm.size, h.me, h.fits, hp, h.small, s, el, by simpa using hb, hm.owns hs (fun k hk => (hF k hk).2), hF⟩

theorem ofB_lt64 (l : List Bool) (h : l.length < 64) : 2 * ofB l + 1 < 18446744073709551616 := by
  have h1 := ofB_lt l
  have h2 : 2 ^ l.length ≤ 2 ^ 63 := Nat.pow_le_pow_right (by omega) (by omega)
  omega

theorem push_bit (v : Nat) (x : Bool) (h : 2 * v + 1 < 18446744073709551616) : bitw .or .u64 (shl .u64 v 1) (IntKind.u64.wrap (x.toNat : Int)) = ((2 * v + x.toNat : Nat) : Int) := by
  have hx : x.toNat ≤ 1 := by cases x <;> simp
  have h1 : shl .u64 (v : Int) 1 = ((v * 2 : Nat) : Int) := by
    have := shl_nat .u64 v 1 (by simp [IntKind.bits])
    rw [show ((1 : Nat) : Int) = 1 from rfl] at this
    rw [this]
    exact wrap_nat_u64 (by omega)
  rw [h1, wrap_nat_u64 (by omega), bitw_or (by simp only [IntKind.bits]; omega) (by simp only [IntKind.bits]; omega)]
  have h2 : v * 2 ||| x.toNat = 2 * v + x.toNat := by
    have := Nat.two_pow_add_eq_or_of_lt (i := 1) (b := x.toNat) (by omega) v
    rw [Nat.mul_comm v 2]
    simpa using this.symm
  rw [h2]
  exact wrap_nat_u64 (by omega)

set_option maxHeartbeats 1000000 in
theorem get_c {w : World} {F : Nat → Prop} {b : Nat} {l : List Nat} {p : Nat} {e : Int} (h : Rr w F b l p e) (n : Int) :
    Calls Try.prog 24 [.pointer (some ⟨b, 0, none⟩), .int .i64 n].toArray w (Ret fun r w' => r = .int .u64 (rGet l p e n).1 ∧ RrAfter w F b l (rGet l p e n).2.1 (rGet l p e n).2.2 w') := by
  refine F_sound c24 (by simp [fc24]) ?_
  obtain ⟨s, el, hb, hs, hF⟩ := h.is
  have hsm := h.small
  have hle := h.le
  have hc2 := cell_blk hb 2
  simp [fc24, s24, hc2]
  by_cases he : e = 0
  · subst he
    refine ite_r (t := false) (by simp) (fun h => by cases h) (fun _ => ?_)
    simp
    by_cases hn : n < 0 ∨ 64 < n
    · refine ite_r (t := true) (by simpa using hn) (fun _ => ?_) (fun h => by cases h)
      simp
      refine st_r (b := b) (o := 2) (by simp) (by simp; rfl) hb (by simp) (by simp) ?_
      intro w' hb' hm' _
      refine ⟨by simp, ?_⟩
      have hr : rGet l p 0 n = (0, p, 1) := by simp [rGet, hn]
      simp [hr]
      exact ⟨h.setErr hb' hs hF hm', hm'⟩
    · refine ite_r (t := false) (by simp; omega) (fun h => by cases h) (fun _ => ?_)
      simp
      refine call_r _ (left_c h) (by simp) ?_
      rintro r w1 ⟨rfl, hm1⟩
      have h1 := h.mod hm1 (fun _ _ h => h)
      refine ⟨by simp, ?_⟩
      simp
      obtain ⟨s1, el1, hb1, hs1, hF1⟩ := h1.is
      by_cases hsh : 8 * l.length < p + n.toNat
      · refine ite_r (t := true) (by simp; omega) (fun _ => ?_) (fun h => by cases h)
        simp
        refine st_r (b := b) (o := 2) (by simp) (by simp; rfl) hb1 (by simp) (by simp) ?_
        intro w' hb' hm' _
        refine ⟨by simp, ?_⟩
        have hr : rGet l p 0 n = (0, p, 3) := by simp [rGet, hn, hsh]
        simp [hr]
        exact ⟨h1.setErr hb' hs1 hF1 hm', (hm1.mono (fun _ _ h => h.elim)).tr hm'⟩
      · refine ite_r (t := false) (by simp; omega) (fun h => by cases h) (fun _ => ?_)
        obtain ⟨N, rfl⟩ : ∃ N : Nat, n = N := ⟨n.toNat, by omega⟩
        have hN : N ≤ 64 := by omega
        simp only [Int.toNat_natCast] at hsh
        have hr : rGet l p 0 N = (ofB (rbits l p N), p + N, 0) := by simp [rGet, hsh]; omega
        rw [hr]
        simp
        refine loop_r (fun m env' w' => ∃ i : Nat, i ≤ N ∧ m = N - i ∧ env' 0 = .pointer (some ⟨b, 0, none⟩) ∧ env' 5 = .int .u64 (ofB (rbits l p i)) ∧ env' 27 = .int .i64 N ∧ env' 28 = .int .i64 i ∧ RrAfter w F b l (p + i) 0 w') N ?_ ?_
        · exact ⟨0, by omega, by omega, by simp, by simp [rbits, ofB], by simp, by simp, h1, hm1.mono (fun _ _ h => h.elim)⟩
        · rintro m env' w' ⟨i, hi, hm, e0, e5, e27, e28, hR, hM⟩
          simp [e27, e28]
          by_cases hlt : i < N
          · refine ite_r (t := true) (by simp; omega) (fun _ => ?_) (fun h => by cases h)
            simp
            rw [wp_blk]
            obtain ⟨s2, el2, hb2, hs2, hF2⟩ := hR.is
            have hd1 := cell_blk hb2 1
            simp [e0, e5, hd1]
            refine call_r _ (look_c hR (p + i) (by omega)) (by simp [e0]) ?_
            rintro r w2 ⟨rfl, rfl⟩
            refine ⟨by simp, ?_⟩
            have hw2 : IntKind.i64.wrap ((p : Int) + (i : Int) + 1) = (p : Int) + (i : Int) + 1 := wrap_i64 (by omega) (by omega)
            have hpb := push_bit (ofB (rbits l p i)) (rdb l (p + i)) (ofB_lt64 _ (by rw [rbits_length]; omega))
            simp [e0, e5, hd1]
            refine st_r (b := b) (o := 1) (v := .int .i64 ((p + (i + 1) : Nat) : Int)) (by simp [e0]) (by simp [hw2]; omega) hb2 (by simp) (by simp) ?_
            intro w3 hb3 hm3 _
            refine ⟨by simp, ?_⟩
            have hw4 : IntKind.i64.wrap ((i : Int) + 1) = (i : Int) + 1 := wrap_i64 (by omega) (by omega)
            simp [e28, hw4]
            refine ⟨N - (i + 1), by omega, i + 1, by omega, rfl, by simp [e0], ?_, by simp [e27], by simp, hR.setAt (by omega) hb3 hs2 hF2 hm3, hM.tr hm3⟩
            rw [hpb, rbits_succ, ofB_snoc]
          · obtain rfl : i = N := by omega
            refine ite_r (t := false) (by simp) (fun h => by cases h) (fun _ => ?_)
            simp [e5]
            exact ⟨hR, hM⟩
  · refine ite_r (t := true) (by simpa using he) (fun _ => ?_) (fun h => by cases h)
    have hr : rGet l p e n = (0, p, e) := by simp [rGet, he]
    simp [hr]
    exact ⟨h, Mod.refl _ _⟩

/-- Signed's number: what Get's is in two's complement of n bits. -/
def sgnI (v : Nat) (n : Int) : Int := shr .i64 (IntKind.i64.wrap (shl .u64 v (IntKind.i64.wrap (64 - n)))) (IntKind.i64.wrap (64 - n))

def rSigned (l : List Nat) (p : Nat) (e : Int) (n : Int) : Int × Nat × Int :=
  let g := rGet l p e n
  (if g.2.2 ≠ 0 ∨ n = 0 then 0 else sgnI g.1 n, g.2.1, g.2.2)

theorem rGet_n {l : List Nat} {p : Nat} {e n : Int} (h : ¬ ((rGet l p e n).2.2 ≠ 0 ∨ n = 0)) : 1 ≤ n ∧ n ≤ 64 := by
  unfold rGet at h
  split at h
  · simp at h; omega
  · split at h
    · simp at h
    · omega

theorem unF_end {l : List Nat} {p m z f : Nat} (h : p + z = 8 * l.length) : unF l p m (f + 1) z = (0, p, 3) := by simp [unF, h]
theorem unF_one {l : List Nat} {p m z f : Nat} (h : p + z ≠ 8 * l.length) (h1 : rdb l (p + z) = true) : unF l p m (f + 1) z = (z, p + z + 1, 0) := by simp [unF, h, h1]
theorem unF_form {l : List Nat} {p m z f : Nat} (h : p + z ≠ 8 * l.length) (h1 : rdb l (p + z) = false) (h2 : z = m) : unF l p m (f + 1) z = (0, p, 2) := by subst h2; simp [unF, h, h1]
theorem unF_go {l : List Nat} {p m z f : Nat} (h : p + z ≠ 8 * l.length) (h1 : rdb l (p + z) = false) (h2 : z ≠ m) : unF l p m (f + 1) z = unF l p m f (z + 1) := by simp [unF, h, h1, h2]

theorem new_c {w : World} {F : Nat → Prop} {v : Value} {l : List Nat} (h : Rd F w v l.length (bytesV l)) (hf : ∀ x ∈ l, x < 256) (hl : l.length ≤ 17592186044416) :
    Calls Try.prog 22 [v].toArray w (Ret fun r w' => ∃ (b : Nat) (G : Nat → Prop), r = .pointer (some ⟨b, 0, none⟩) ∧ Rr w' G b l 0 0 ∧ Mod none' w w' ∧ ∀ k, G k → w.heap.size ≤ k) := by
  refine F_sound c22 (by simp [fc22]) ?_
  simp [fc22, s22]
  refine app_r slT8 (World.ownsRow_nil w w.heap.size 5 1) h (by simp [bytesV]) (bytesV_one _) (Nat.le_refl _) (by omega) (by unfold maxLen; omega) rfl (by simp) ?_
  intro v' w1 ho hm1 _ _
  refine ⟨by simp, ?_⟩
  have h1 : v'.cells = #[v'] := by rcases ho.2 with ⟨rfl, _⟩ | ⟨g, cap, cur, rfl, _⟩ <;> rfl
  simp [h1]
  refine box_r (.agg #[v', .int .i64 0, .int .i64 0]) (by simp [h1, putAt]) ?_
  intro b w2 hb hb2 hm2 hsz
  refine ⟨by simp, ?_⟩
  have hm12 : Mod none' w w2 := (hm1.mono fun k _ h => by simp [Value.ownBlock] at h).tr hm2
  have hob : ∀ k, v'.ownBlock = some k → w.heap.size ≤ k ∧ k < w1.heap.size := fun k hk => ho.lt k hk
  simp only [wp_set, wp_ret', postF_ret, oks_cons, oks_nil, E.ok, evs_cons, evs_nil, E.ev, upd_apply, updo_some, if_true, pack_one, true_and]
  refine ⟨b, rfl, fun k => k = b ∨ v'.ownBlock = some k, ⟨?_, .inl rfl, hf, by omega, hl, v', _, hb2, ?_, ?_⟩, hm12, ?_⟩
  · rintro k (rfl | hk)
    · omega
    · have := hob k hk; omega
  · have := hm2.owns ho (fun _ _ h => h)
    refine ⟨by simpa using this.1, ?_⟩
    rcases this.2 with ⟨h1, h2⟩ | ⟨g, cap, cur, h1, h2, h3⟩
    · exact .inl ⟨h1, by simpa using h2⟩
    · exact .inr ⟨g, cap, cur, by simpa using h1, by omega, by simpa using h3⟩
  · intro k hk
    have := hob k hk
    exact ⟨.inr hk, by omega⟩
  · rintro k (rfl | hk)
    · have := hm1.size; omega
    · exact (hob k hk).1

end Go.Proofs.Ytgjnfajdejkkjaa.VG

/-! ## Bits: what the laws call: known, low, Same, a new writer; what packed bits read as. -/
namespace Go.Proofs.Ytgjnfajdejkkjaa.VG
open Go
set_option linter.unusedSimpArgs false
set_option linter.unusedVariables false
set_option maxRecDepth 20000

/-! ### Plain: packed bits are read as they are -/
theorem ofB_testBit (l : List Bool) (i : Nat) : (ofB l).testBit i = (if i < l.length then l.getD (l.length - 1 - i) false else false) := by
  rw [← List.reverse_reverse l]
  generalize l.reverse = r
  induction r generalizing i with
  | nil => simp [ofB]
  | cons x r ih =>
    rw [List.reverse_cons, ofB_snoc]
    cases i with
    | zero =>
      rw [Nat.testBit_zero]
      cases x <;> simp <;> omega
    | succ i =>
      rw [Nat.testBit_succ, show (2 * ofB r.reverse + x.toNat) / 2 = ofB r.reverse by cases x <;> simp <;> omega, ih]
      simp only [List.length_append, List.length_reverse, List.length_singleton, Nat.add_lt_add_iff_right]
      split
      · rename_i h
        rw [List.getD_eq_getElem?_getD, List.getD_eq_getElem?_getD, List.getElem?_append_left (by simp; omega)]
        congr 2
        omega
      · rfl

theorem rdb_pack (bs : List Bool) (i : Nat) : rdb (packB bs) i = bs.getD i false := by
  unfold rdb
  have hb : (packB bs).getD (i / 8) 0 = if i / 8 < (bs.length + 7) / 8 then byteAt bs (i / 8) else 0 := by
    rw [List.getD_eq_getElem?_getD]
    by_cases h : i / 8 < (bs.length + 7) / 8
    · simp [packB, h]
    · simp [packB, h]
  rw [hb]
  split
  · rename_i h
    unfold byteAt
    generalize hc : (bs.drop (8 * (i / 8))).take 8 = c
    have hcl : c.length = min 8 (bs.length - 8 * (i / 8)) := by rw [← hc]; simp
    rw [Nat.testBit_mul_two_pow]
    by_cases hi : i < bs.length
    · have h1 : i % 8 < c.length := by omega
      have h2 : 8 - c.length ≤ 7 - i % 8 := by omega
      rw [ofB_testBit]
      have h3 : 7 - i % 8 - (8 - c.length) < c.length := by omega
      simp only [h2, h3, decide_true, Bool.true_and, if_true]
      rw [show c.length - 1 - (7 - i % 8 - (8 - c.length)) = i % 8 by omega, ← hc]
      rw [List.getD_eq_getElem?_getD, List.getD_eq_getElem?_getD, List.getElem?_take_of_lt (by omega), List.getElem?_drop]
      congr 2
      omega
    · have h2 : ¬ 8 - c.length ≤ 7 - i % 8 := by omega
      simp [h2, List.getD_eq_getElem?_getD, List.getElem?_eq_none (Nat.le_of_not_lt hi)]
  · rename_i h
    have hi : bs.length ≤ i := by omega
    simp [List.getD_eq_getElem?_getD, List.getElem?_eq_none hi]

theorem rbits_pack (bs : List Bool) (i n : Nat) (h : i + n ≤ bs.length) : rbits (packB bs) i n = (bs.drop i).take n := by
  apply List.ext_getElem?
  intro j
  by_cases hj : j < n
  · rw [List.getElem?_take_of_lt hj, List.getElem?_drop]
    simp [rbits, hj, rdb_pack, List.getElem?_eq_getElem (show i + j < bs.length by omega)]
  · rw [List.getElem?_eq_none (by simp [rbits]; omega), List.getElem?_eq_none (by simp; omega)]

/-- What Get reads where so many bits were put. -/
theorem rGet_pack (a b c : List Bool) (h : b.length ≤ 64) : rGet (packB (a ++ b ++ c)) a.length 0 b.length = (ofB b, a.length + b.length, 0) := by
  unfold rGet
  have hl := packB_length (a ++ b ++ c)
  simp only [List.length_append] at hl
  rw [if_neg (by simp), if_neg (by omega), if_neg (by rw [Int.toNat_natCast, hl]; omega), Int.toNat_natCast, rbits_pack _ _ _ (by simp)]
  congr 2
  rw [List.append_assoc, List.drop_left, List.take_left]

theorem unF_pack (a c : List Bool) (k m : Nat) (hk : k ≤ m) : ∀ (f z : Nat), z ≤ k → k - z < f → unF (packB (a ++ (List.replicate k false ++ [true]) ++ c)) a.length m f z = (k, a.length + k + 1, 0) := by
  have hl := packB_length (a ++ (List.replicate k false ++ [true]) ++ c)
  simp only [List.length_append, List.length_replicate, List.length_singleton] at hl
  intro f
  induction f with
  | zero => intro z _ h; omega
  | succ f ih =>
    intro z hz hf
    have hb : rdb (packB (a ++ (List.replicate k false ++ [true]) ++ c)) (a.length + z) = decide (z = k) := by
      rw [rdb_pack, List.getD_eq_getElem?_getD, List.getElem?_append_left (by simp; omega), List.getElem?_append_right (by omega), Nat.add_sub_cancel_left]
      by_cases e : z = k
      · subst e; simp
      · rw [List.getElem?_append_left (by simp; omega)]
        simp [e, show z < k by omega]
    by_cases e : z = k
    · subst e
      rw [unF_one (by omega) (by simpa using hb)]
    · rw [unF_go (by omega) (by simpa [e] using hb) (by omega)]
      exact ih (z + 1) (by omega) (by omega)

theorem rUnary_pack (a c : List Bool) (k : Nat) (m : Int) (hk : k ≤ m.toNat) : rUnary (packB (a ++ (List.replicate k false ++ [true]) ++ c)) a.length 0 m = (k, a.length + k + 1, 0) := by
  unfold rUnary
  have hl := packB_length (a ++ (List.replicate k false ++ [true]) ++ c)
  simp only [List.length_append, List.length_replicate, List.length_singleton] at hl
  rw [if_neg (by simp)]
  exact unF_pack a c k m.toNat hk _ 0 (by omega) (by omega)

/-! ### Memory of one's own -/
theorem Mod.far {W w w' : World} {F : Nat → Prop} (h : Mod none' W w) (hF : ∀ k, F k → W.heap.size ≤ k) (m : Mod F w w') : Mod none' W w' :=
  h.trans m (fun k hk hf => by have := hF k hf; omega)

theorem packB_fits (bs : List Bool) : ∀ x ∈ packB bs, x < 256 := by
  intro x hx
  simp only [packB, List.mem_map] at hx
  obtain ⟨j, _, rfl⟩ := hx
  exact byteAt_lt bs j

theorem newWr {w' : World} {b : Nat} {el : TypeId} (hb : w'.heap[b]? = some (.cells #[.slice none 0 0, .int .i64 0] el (0, 0))) : Wr w' (fun k => k = b) b [] :=
  ⟨fun k hk => hk ▸ heap_lt hb, rfl, _, el, by simpa using hb, World.ownsRow_nil _ _ _ _, fun k h => by simp [Value.ownBlock] at h⟩

theorem Fresh.rd {w w' : World} {v : Value} {l : List Nat} (h : Fresh w w' v l) : Rd (fun k => w.heap.size ≤ k ∧ k < w'.heap.size) w' v l.length (bytesV l) :=
  (Rd.of_owns h.1).mono fun k hk => ⟨hk.2, own_lt h.1 hk.1⟩

/-! ### Calls -/
def lowN (v n : Nat) : Nat := if 64 ≤ n then v else v % 2 ^ n
theorem lowN_lt (v n : Nat) (hv : v < 18446744073709551616) : lowN v n < 2 ^ n := by
  unfold lowN
  split
  · rename_i h
    have : 2 ^ 64 ≤ 2 ^ n := Nat.pow_le_pow_right (by omega) h
    omega
  · exact Nat.mod_lt _ (Nat.two_pow_pos _)
theorem lowN_lt64 (v n : Nat) (hv : v < 18446744073709551616) : lowN v n < 18446744073709551616 := by
  unfold lowN
  split
  · exact hv
  · exact Nat.lt_of_le_of_lt (Nat.mod_le _ _) hv

/-- Bytes as a list of the model's. -/
def oct (l : List Nat) : List UInt8 := l.map UInt8.ofNat
theorem oct_V (l : List Nat) (h : ∀ x ∈ l, x < 256) : (oct l).map (fun b => Value.int .u8 b.toNat) = bytesV l := by
  simp only [oct, bytesV, List.map_map]
  apply List.map_congr_left
  intro x hx
  have : (UInt8.ofNat x).toNat = x := by simp [UInt8.toNat_ofNat']; exact h x hx
  simp [this]
theorem oct_len (l : List Nat) : (oct l).length = l.length := by simp [oct]
theorem Rd.oct {F : Nat → Prop} {w : World} {v : Value} {l : List Nat} (h : Rd F w v l.length (bytesV l)) (hl : ∀ x ∈ l, x < 256) : Rd F w v (oct l).length ((oct l).map fun b => .int .u8 b.toNat) := by rw [oct_V l hl, oct_len]; exact h
theorem oct_inj (l m : List Nat) (h : ∀ x ∈ l, x < 256) (k : ∀ x ∈ m, x < 256) (e : oct l = oct m) : l = m := by
  have h1 : ∀ l : List Nat, (∀ x ∈ l, x < 256) → (oct l).map UInt8.toNat = l := by
    intro l h
    simp only [oct, List.map_map]
    conv => rhs; rw [← List.map_id l]
    apply List.map_congr_left
    intro x hx
    simp [UInt8.toNat_ofNat']; exact h x hx
  rw [← h1 l h, ← h1 m k, e]

/-- Whose blocks all lie beyond W, and W has stayed. -/
structure Own (W w : World) (F : Nat → Prop) : Prop where
  far : ∀ k, F k → W.heap.size ≤ k
  mod : Mod none' W w
theorem Own.step {W w w' : World} {F F' G : Nat → Prop} (h : Own W w F) (hm : Mod G w w') (hG : ∀ k, G k → F k) (hF : ∀ k, F' k → F k ∨ w.heap.size ≤ k) : Own W w' F' :=
  ⟨fun k hk => (hF k hk).elim (h.far k) (fun h' => Nat.le_trans h.mod.size h'), h.mod.far (fun k hk => h.far k (hG k hk)) hm⟩
theorem Own.new {W w w' : World} {G : Nat → Prop} (h : Mod none' W w) (hm : Mod none' w w') (hG : ∀ k, G k → w.heap.size ≤ k) : Own W w' G :=
  ⟨fun k hk => Nat.le_trans h.size (hG k hk), h.tr hm⟩

end Go.Proofs.Ytgjnfajdejkkjaa.VG

/-! ## Bits: the law BitsSplit. -/
namespace Go.Proofs.Ytgjnfajdejkkjaa.VG
open Go
set_option linter.unusedSimpArgs false
set_option linter.unusedVariables false
set_option maxRecDepth 20000

theorem toB_split (x y n k : Nat) (h : k ≤ n) (hy : ∀ i, i < n - k → y.testBit i = x.testBit i) : toB (x / 2 ^ (n - k)) k ++ toB y (n - k) = toB x n := by
  apply List.ext_getElem?
  intro i
  by_cases hi : i < n
  · rw [toB_get x n i hi]
    by_cases hk : i < k
    · rw [List.getElem?_append_left (by rw [toB_length]; exact hk), toB_get _ _ _ hk, Nat.testBit_div_two_pow]
      congr 2; omega
    · rw [List.getElem?_append_right (by rw [toB_length]; omega), toB_length, toB_get _ _ _ (by omega), hy _ (by omega)]
      congr 2; omega
  · rw [List.getElem?_eq_none (by simp [toB_length]; omega), List.getElem?_eq_none (by simp [toB_length]; omega)]

theorem and_mask (x : Int) (j : Nat) (hj : j < 63) : bitw .and .i64 x ((2 ^ j - 1 : Nat) : Int) = x % ((2 ^ j : Nat) : Int) := by
  have hp : 2 ^ j ≤ 2 ^ 62 := Nat.pow_le_pow_right (by omega) (by omega)
  have hp0 := Nat.two_pow_pos j
  have e64 : 2 ^ IntKind.i64.bits = 2 ^ 64 := rfl
  simp only [bitw, ofInt_nat, BitVec.toNat_and, BitVec.toNat_ofNat, BitVec.toNat_ofInt, e64]
  rw [Nat.mod_eq_of_lt (a := 2 ^ j - 1) (by omega), Nat.and_two_pow_sub_one_eq_mod]
  have h1 : ((x % (2 ^ 64 : Nat)).toNat % 2 ^ j : Nat) = (x % ((2 ^ j : Nat) : Int)).toNat := by
    have h2 : x % ((2 ^ j : Nat) : Int) = x % ((2 ^ 64 : Nat) : Int) % ((2 ^ j : Nat) : Int) := by
      rw [Int.emod_emod_of_dvd]
      exact_mod_cast Nat.pow_dvd_pow 2 (by omega)
    rw [h2]
    obtain ⟨Y, hY⟩ : ∃ Y : Nat, x % ((2 ^ 64 : Nat) : Int) = Y := ⟨(x % ((2 ^ 64 : Nat) : Int)).toNat, by omega⟩
    rw [hY, ← Int.natCast_emod, Int.toNat_natCast, Int.toNat_natCast]
  rw [h1]
  have h3 : 0 ≤ x % ((2 ^ j : Nat) : Int) := Int.emod_nonneg _ (by omega)
  have h4 : x % ((2 ^ j : Nat) : Int) < ((2 ^ j : Nat) : Int) := Int.emod_lt_of_pos _ (by omega)
  rw [Int.toNat_of_nonneg h3]
  exact wrap_i64 (by omega) (by omega)

theorem dis_step {w : World} {F F' G : Nat → Prop} (h : ∀ k, F k → ¬ G k) (hF : ∀ k, F' k → F k ∨ w.heap.size ≤ k) (hG : ∀ k, G k → k < w.heap.size) : ∀ k, F' k → ¬ G k :=
  fun k hk hg => (hF k hk).elim (fun h' => h k h' hg) (fun h' => by have := hG k hg; omega)

theorem Own.at {W w w' : World} {F : Nat → Prop} (h : Own W w F) (m : Mod none' W w') : Own W w' F := ⟨h.far, m⟩

end Go.Proofs.Ytgjnfajdejkkjaa.VG

/-! ## Bits: the laws BitsZeros, BitsSigned, BitsOctets. -/
namespace Go.Proofs.Ytgjnfajdejkkjaa.VG
open Go
set_option linter.unusedSimpArgs false
set_option linter.unusedVariables false
set_option maxRecDepth 20000

theorem unF_over (a c : List Bool) (k m : Nat) (hk : m < k) : ∀ (f z : Nat), z ≤ m → m - z < f → unF (packB (a ++ (List.replicate k false ++ [true]) ++ c)) a.length m f z = (0, a.length, 2) := by
  have hl := packB_length (a ++ (List.replicate k false ++ [true]) ++ c)
  simp only [List.length_append, List.length_replicate, List.length_singleton] at hl
  intro f
  induction f with
  | zero => intro z _ h; omega
  | succ f ih =>
    intro z hz hf
    have hb : rdb (packB (a ++ (List.replicate k false ++ [true]) ++ c)) (a.length + z) = false := by
      rw [rdb_pack, List.getD_eq_getElem?_getD, List.getElem?_append_left (by simp; omega), List.getElem?_append_right (by omega), Nat.add_sub_cancel_left]
      rw [List.getElem?_append_left (by simp; omega)]
      simp [show z < k by omega]
    by_cases e : z = m
    · subst e
      rw [unF_form (by omega) hb rfl]
    · rw [unF_go (by omega) hb e]
      exact ih (z + 1) (by omega) (by omega)

theorem rUnary_over (a c : List Bool) (k : Nat) (m : Int) (hk : m.toNat < k) : rUnary (packB (a ++ (List.replicate k false ++ [true]) ++ c)) a.length 0 m = (0, a.length, 2) := by
  unfold rUnary
  have hl := packB_length (a ++ (List.replicate k false ++ [true]) ++ c)
  simp only [List.length_append, List.length_replicate, List.length_singleton] at hl
  rw [if_neg (by simp)]
  exact unF_over a c k m.toNat hk _ 0 (by omega) (by omega)

theorem mask_nat (x : Int) (j : Nat) (hj : j < 63) : ∃ N : Nat, N < 2 ^ j ∧ bitw .and .i64 x ((2 ^ j - 1 : Nat) : Int) = N ∧ x % ((2 ^ j : Nat) : Int) = N := by
  have hp0 := Nat.two_pow_pos j
  have h1 := Int.emod_nonneg x (show ((2 ^ j : Nat) : Int) ≠ 0 by omega)
  have h2 := Int.emod_lt_of_pos x (show (0 : Int) < ((2 ^ j : Nat) : Int) by omega)
  exact ⟨(x % ((2 ^ j : Nat) : Int)).toNat, by omega, by rw [and_mask x j hj]; omega, by omega⟩

theorem shr_int (k : IntKind) (x : Int) (y : Nat) (h : y ≤ k.bits) : shr k x y = x / ((2 ^ y : Nat) : Int) := by
  simp only [shr, Int.toNat_natCast, Nat.min_eq_left h]
  rw [Int.fdiv_eq_ediv_of_nonneg _ (by exact_mod_cast Nat.zero_le _)]
  norm_cast
theorem shl_int (k : IntKind) (x : Int) (y : Nat) (h : y ≤ k.bits) : shl k x y = k.wrap (x * ((2 ^ y : Nat) : Int)) := by
  simp only [shl, Int.toNat_natCast, Nat.min_eq_left h]
  norm_cast
theorem wrap_i64_is (x : Int) : ∃ q, IntKind.i64.wrap x = x + 18446744073709551616 * q ∧ -9223372036854775808 ≤ IntKind.i64.wrap x ∧ IntKind.i64.wrap x ≤ 9223372036854775807 := by
  unfold IntKind.wrap IntKind.bits IntKind.signed
  simp only [Bool.true_and, decide_eq_true_eq]
  split
  · exact ⟨-(x / 18446744073709551616) - 1, by omega, by omega, by omega⟩
  · exact ⟨-(x / 18446744073709551616), by omega, by omega, by omega⟩
theorem wrap_u64_is (x : Int) : ∃ q, IntKind.u64.wrap x = x + 18446744073709551616 * q ∧ 0 ≤ IntKind.u64.wrap x ∧ IntKind.u64.wrap x < 18446744073709551616 := by
  unfold IntKind.wrap IntKind.bits IntKind.signed
  simp only [Bool.false_and, Bool.false_eq_true, if_false]
  exact ⟨-(x / 18446744073709551616), by omega, by omega, by omega⟩
theorem wrap_i64_uniq {x y q : Int} (h : x = y + 18446744073709551616 * q) (h0 : -9223372036854775808 ≤ y) (h1 : y ≤ 9223372036854775807) : IntKind.i64.wrap x = y := by
  obtain ⟨q', h2, h3, h4⟩ := wrap_i64_is x
  omega

/-- What is cut to n bits and put is read back as it is. -/
theorem signed_back (x : Int) (N : Nat) (h1 : 1 ≤ N) (h2 : N ≤ 64) (y : Int) (hy : y = shr .i64 (shl .i64 x ((64 - N : Nat) : Int)) ((64 - N : Nat) : Int)) :
    sgnI (lowN (IntKind.u64.wrap y).toNat N) N = y ∧ -9223372036854775808 ≤ y ∧ y ≤ 9223372036854775807 := by
  have hb : 64 - N ≤ IntKind.i64.bits := by simp only [IntKind.bits]; omega
  have hb' : 64 - N ≤ IntKind.u64.bits := by simp only [IntKind.bits]; omega
  rw [shl_int _ _ _ hb, shr_int _ _ _ hb] at hy
  obtain ⟨q, hz, hz0, hz1⟩ := wrap_i64_is (x * ((2 ^ (64 - N) : Nat) : Int))
  have hP : 2 ^ N * 2 ^ (64 - N) = 18446744073709551616 := by rw [← Nat.pow_add, show N + (64 - N) = 64 by omega]
  have hP0 := Nat.two_pow_pos (64 - N)
  have hQ0 := Nat.two_pow_pos N
  have hlow : lowN (IntKind.u64.wrap y).toNat N = (IntKind.u64.wrap y).toNat % 2 ^ N := by
    unfold lowN
    split
    · obtain rfl : N = 64 := by omega
      obtain ⟨q', h3, h4, h5⟩ := wrap_u64_is y
      rw [Nat.mod_eq_of_lt (by omega)]
    · rfl
  obtain ⟨q', hu, hu0, hu1⟩ := wrap_u64_is y
  generalize IntKind.i64.wrap (x * ((2 ^ (64 - N) : Nat) : Int)) = z at *
  generalize hU : IntKind.u64.wrap y = U at *
  generalize hPe : (2 ^ (64 - N) : Nat) = P at *
  generalize hQe : (2 ^ N : Nat) = Q at *
  have hPQ : (Q : Int) * (P : Int) = 18446744073709551616 := by rw [← Int.natCast_mul, hP]; rfl
  have hzP : z = P * (x + Q * q) := by
    rw [hz, Int.mul_add, ← Int.mul_assoc, Int.mul_comm (P : Int) Q, hPQ, Int.mul_comm]
  have hyz : y = x + Q * q := by rw [hy, hzP, Int.mul_ediv_cancel_left _ (by omega)]
  have hzy : z = P * y := by rw [hzP, hyz]
  have hyr : -9223372036854775808 ≤ y ∧ y ≤ 9223372036854775807 := by
    rw [hy]
    constructor
    · rw [Int.le_ediv_iff_mul_le (by omega)]
      have : (-9223372036854775808 : Int) * P ≤ -9223372036854775808 := by
        have : (1 : Int) ≤ P := by omega
        omega
      omega
    · rw [← Int.lt_add_one_iff, Int.ediv_lt_iff_lt_mul (by omega)]
      have : (9223372036854775807 + 1 : Int) * P ≥ 9223372036854775808 := by
        have : (1 : Int) ≤ P := by omega
        omega
      omega
  refine ⟨?_, hyr⟩
  have hLo : ∃ t : Int, ((lowN U.toNat N : Nat) : Int) = y + Q * t := by
    rw [hlow]
    refine ⟨P * q' - (U.toNat / Q : Nat), ?_⟩
    have := Nat.mod_add_div U.toNat Q
    have h3 : ((U.toNat % Q : Nat) : Int) + (Q : Int) * ((U.toNat / Q : Nat) : Int) = U := by
      have : ((U.toNat % Q + Q * (U.toNat / Q) : Nat) : Int) = U.toNat := by rw [this]
      push_cast at this ⊢
      omega
    rw [Int.mul_sub, ← Int.mul_assoc, hPQ]
    omega
  obtain ⟨t, ht⟩ := hLo
  have hw : IntKind.i64.wrap (64 - (N : Int)) = ((64 - N : Nat) : Int) := by rw [wrap_i64 (by omega) (by omega)]; omega
  unfold sgnI
  rw [hw, shl_int _ _ _ hb', shr_int _ _ _ hb, hPe]
  obtain ⟨q3, h3, _, _⟩ := wrap_u64_is (((lowN U.toNat N : Nat) : Int) * (P : Int))
  have h4 : IntKind.i64.wrap (IntKind.u64.wrap (((lowN U.toNat N : Nat) : Int) * (P : Int))) = z := by
    apply wrap_i64_uniq (q := t + q3) _ hz0 hz1
    rw [h3, ht, Int.add_mul, Int.mul_right_comm (Q : Int) t, hPQ, hzy, Int.mul_comm y, Int.mul_add]
    omega
  rw [h4, ← hy]

end Go.Proofs.Ytgjnfajdejkkjaa.VG

/-! ## Bits: the law BitsOctets. -/
namespace Go.Proofs.Ytgjnfajdejkkjaa.VG
open Go
set_option linter.unusedSimpArgs false
set_option linter.unusedVariables false
set_option maxRecDepth 20000

theorem packB_cons8 (a b : List Bool) (h : a.length = 8) : packB (a ++ b) = ofB a :: packB b := by
  have e : ((a ++ b).length + 7) / 8 = (b.length + 7) / 8 + 1 := by rw [List.length_append, h]; omega
  unfold packB
  rw [e, List.range_succ_eq_map, List.map_cons, List.map_map]
  congr 1
  · unfold byteAt
    have : ((a ++ b).drop (8 * 0)).take 8 = a := by rw [Nat.mul_zero, List.drop_zero, ← h, List.take_left]
    rw [this, h]
    simp
  · apply List.map_congr_left
    intro j _
    unfold byteAt
    have : (a ++ b).drop (8 * (j + 1)) = b.drop (8 * j) := by
      rw [show 8 * (j + 1) = a.length + 8 * j by omega, ← List.drop_drop, List.drop_left]
    simp only [Function.comp, Nat.succ_eq_add_one, this]

/-- Bytes put by eight bits. -/
def octB (l : List Nat) : List Bool := l.flatMap fun x => toB x 8
theorem octB_len (l : List Nat) : (octB l).length = 8 * l.length := by
  induction l with
  | nil => rfl
  | cons x r ih => simp only [octB, List.flatMap_cons, List.length_append, toB_length, List.length_cons] at ih ⊢; omega
theorem octB_snoc (l : List Nat) (x : Nat) : octB (l ++ [x]) = octB l ++ toB x 8 := by simp [octB]
theorem packB_octB (l : List Nat) (h : ∀ x ∈ l, x < 256) : packB (octB l) = l := by
  induction l with
  | nil => rfl
  | cons x r ih =>
    have : octB (x :: r) = toB x 8 ++ octB r := by simp [octB]
    rw [this, packB_cons8 _ _ (toB_length _ _), ofB_toB, ih (fun y hy => h y (by simp [hy]))]
    rw [Nat.mod_eq_of_lt (by have := h x (by simp); omega)]
theorem take_snoc (l : List Nat) (i : Nat) (h : i < l.length) : l.take (i + 1) = l.take i ++ [l.getD i 0] := by
  rw [List.take_add_one, List.getD_eq_getElem?_getD, List.getElem?_eq_getElem h]
  rfl

theorem row_bytes {w : World} {a : Option Addr} {len cap : Nat} {zs : List Int}
    (h : (a = none ∧ len = 0 ∧ cap = 0 ∧ zs = []) ∨ ∃ x, a = some x ∧ len ≤ cap ∧ cap ≤ maxLen ∧ zs.length = cap ∧ (∀ i, i < zs.length → w.cell? (x.add i) = some (.int .u8 (zs.getD i 0))) ∧ ∀ n ∈ zs, (Lit.int .u8 n).wf = true) :
    ∃ l : List Nat, Rd (fun b => b < w.heap.size) w (.slice a len cap) l.length (bytesV l) ∧ (∀ x ∈ l, x < 256) ∧ l.length ≤ maxLen := by
  obtain ⟨hr, hl, hw, hm⟩ := Rd.of_row h
  refine ⟨(zs.take len).map Int.toNat, ?_, ?_, by rw [List.length_map, hl]; exact hm⟩
  · have : bytesV ((zs.take len).map Int.toNat) = (zs.take len).map (Value.int .u8) := by
      unfold bytesV
      rw [List.map_map]
      apply List.map_congr_left
      intro x hx
      obtain ⟨n, rfl, _⟩ := wf_u8 (hw x hx)
      rfl
    rw [this, List.length_map, hl]
    exact hr
  · intro x hx
    simp only [List.mem_map] at hx
    obtain ⟨y, hy, rfl⟩ := hx
    obtain ⟨n, rfl, h⟩ := wf_u8 (hw y hy)
    simpa using h

end Go.Proofs.Ytgjnfajdejkkjaa.VG
