/-
  Bits: what the laws call: known, low, Same, a new writer; what packed bits read as.
-/
import Derived.Test.YtajkofndbeohpaaBc
import Derived.Laws.Strings
namespace Go.Proofs.Ytajkofndbeohpaa.VG
open Go
set_option linter.unusedSimpArgs false
set_option linter.unusedVariables false

/-! ### Plain: packed bits are read as they are -/
theorem ofB_testBit (l : List Bool) (i : Nat) : (ofB l).testBit i = (if i < l.length then l.getD (l.length - 1 - i) false else false) := by
  rw [← List.reverse_reverse l]
  generalize l.reverse = r
  induction r generalizing i with
  | nil => simp [ofB]
  | cons x r ih =>
    rw [List.reverse_cons, ofB_snoc]
    cases i with
    | zero =>
      rw [Nat.testBit_zero]
      cases x <;> simp <;> omega
    | succ i =>
      rw [Nat.testBit_succ, show (2 * ofB r.reverse + x.toNat) / 2 = ofB r.reverse by cases x <;> simp <;> omega, ih]
      simp only [List.length_append, List.length_reverse, List.length_singleton, Nat.add_lt_add_iff_right]
      split
      · rename_i h
        rw [List.getD_eq_getElem?_getD, List.getD_eq_getElem?_getD, List.getElem?_append_left (by simp; omega)]
        congr 2
        omega
      · rfl

theorem rdb_pack (bs : List Bool) (i : Nat) : rdb (packB bs) i = bs.getD i false := by
  unfold rdb
  have hb : (packB bs).getD (i / 8) 0 = if i / 8 < (bs.length + 7) / 8 then byteAt bs (i / 8) else 0 := by
    rw [List.getD_eq_getElem?_getD]
    by_cases h : i / 8 < (bs.length + 7) / 8
    · simp [packB, h]
    · simp [packB, h]
  rw [hb]
  split
  · rename_i h
    unfold byteAt
    generalize hc : (bs.drop (8 * (i / 8))).take 8 = c
    have hcl : c.length = min 8 (bs.length - 8 * (i / 8)) := by rw [← hc]; simp
    rw [Nat.testBit_mul_two_pow]
    by_cases hi : i < bs.length
    · have h1 : i % 8 < c.length := by omega
      have h2 : 8 - c.length ≤ 7 - i % 8 := by omega
      rw [ofB_testBit]
      have h3 : 7 - i % 8 - (8 - c.length) < c.length := by omega
      simp only [h2, h3, decide_true, Bool.true_and, if_true]
      rw [show c.length - 1 - (7 - i % 8 - (8 - c.length)) = i % 8 by omega, ← hc]
      rw [List.getD_eq_getElem?_getD, List.getD_eq_getElem?_getD, List.getElem?_take_of_lt (by omega), List.getElem?_drop]
      congr 2
      omega
    · have h2 : ¬ 8 - c.length ≤ 7 - i % 8 := by omega
      simp [h2, List.getD_eq_getElem?_getD, List.getElem?_eq_none (Nat.le_of_not_lt hi)]
  · rename_i h
    have hi : bs.length ≤ i := by omega
    simp [List.getD_eq_getElem?_getD, List.getElem?_eq_none hi]

theorem rbits_pack (bs : List Bool) (i n : Nat) (h : i + n ≤ bs.length) : rbits (packB bs) i n = (bs.drop i).take n := by
  apply List.ext_getElem?
  intro j
  by_cases hj : j < n
  · rw [List.getElem?_take_of_lt hj, List.getElem?_drop]
    simp [rbits, hj, rdb_pack, List.getElem?_eq_getElem (show i + j < bs.length by omega)]
  · rw [List.getElem?_eq_none (by simp [rbits]; omega), List.getElem?_eq_none (by simp; omega)]

/-- What Get reads where so many bits were put. -/
theorem rGet_pack (a b c : List Bool) (h : b.length ≤ 64) : rGet (packB (a ++ b ++ c)) a.length 0 b.length = (ofB b, a.length + b.length, 0) := by
  unfold rGet
  have hl := packB_length (a ++ b ++ c)
  simp only [List.length_append] at hl
  rw [if_neg (by simp), if_neg (by omega), if_neg (by rw [Int.toNat_natCast, hl]; omega), Int.toNat_natCast, rbits_pack _ _ _ (by simp)]
  congr 2
  rw [List.append_assoc, List.drop_left, List.take_left]

theorem unF_pack (a c : List Bool) (k m : Nat) (hk : k ≤ m) : ∀ (f z : Nat), z ≤ k → k - z < f → unF (packB (a ++ (List.replicate k false ++ [true]) ++ c)) a.length m f z = (k, a.length + k + 1, 0) := by
  have hl := packB_length (a ++ (List.replicate k false ++ [true]) ++ c)
  simp only [List.length_append, List.length_replicate, List.length_singleton] at hl
  intro f
  induction f with
  | zero => intro z _ h; omega
  | succ f ih =>
    intro z hz hf
    have hb : rdb (packB (a ++ (List.replicate k false ++ [true]) ++ c)) (a.length + z) = decide (z = k) := by
      rw [rdb_pack, List.getD_eq_getElem?_getD, List.getElem?_append_left (by simp; omega), List.getElem?_append_right (by omega), Nat.add_sub_cancel_left]
      by_cases e : z = k
      · subst e; simp
      · rw [List.getElem?_append_left (by simp; omega)]
        simp [e, show z < k by omega]
    by_cases e : z = k
    · subst e
      rw [unF_one (by omega) (by simpa using hb)]
    · rw [unF_go (by omega) (by simpa [e] using hb) (by omega)]
      exact ih (z + 1) (by omega) (by omega)

theorem rUnary_pack (a c : List Bool) (k : Nat) (m : Int) (hk : k ≤ m.toNat) : rUnary (packB (a ++ (List.replicate k false ++ [true]) ++ c)) a.length 0 m = (k, a.length + k + 1, 0) := by
  unfold rUnary
  have hl := packB_length (a ++ (List.replicate k false ++ [true]) ++ c)
  simp only [List.length_append, List.length_replicate, List.length_singleton] at hl
  rw [if_neg (by simp)]
  exact unF_pack a c k m.toNat hk _ 0 (by omega) (by omega)

/-! ### Memory of one's own -/
theorem Mod.far {W w w' : World} {F : Nat → Prop} (h : Mod none' W w) (hF : ∀ k, F k → W.heap.size ≤ k) (m : Mod F w w') : Mod none' W w' :=
  h.trans m (fun k hk hf => by have := hF k hf; omega)

theorem packB_fits (bs : List Bool) : ∀ x ∈ packB bs, x < 256 := by
  intro x hx
  simp only [packB, List.mem_map] at hx
  obtain ⟨j, _, rfl⟩ := hx
  exact byteAt_lt bs j

theorem newWr {w' : World} {b : Nat} {el : TypeId} (hb : w'.heap[b]? = some (.cells #[.slice none 0 0, .int .i64 0] el (0, 0))) : Wr w' (fun k => k = b) b [] :=
  ⟨fun k hk => hk ▸ heap_lt hb, rfl, _, el, by simpa using hb, World.ownsRow_nil _ _ _ _, fun k h => by simp [Value.ownBlock] at h⟩

theorem Fresh.rd {w w' : World} {v : Value} {l : List Nat} (h : Fresh w w' v l) : Rd (fun k => w.heap.size ≤ k ∧ k < w'.heap.size) w' v l.length (bytesV l) :=
  (Rd.of_owns h.1).mono fun k hk => ⟨hk.2, own_lt h.1 hk.1⟩

/-! ### Calls -/
def lowN (v n : Nat) : Nat := if 64 ≤ n then v else v % 2 ^ n
theorem lowN_lt (v n : Nat) (hv : v < 18446744073709551616) : lowN v n < 2 ^ n := by
  unfold lowN
  split
  · rename_i h
    have : 2 ^ 64 ≤ 2 ^ n := Nat.pow_le_pow_right (by omega) h
    omega
  · exact Nat.mod_lt _ (Nat.two_pow_pos _)
theorem lowN_lt64 (v n : Nat) (hv : v < 18446744073709551616) : lowN v n < 18446744073709551616 := by
  unfold lowN
  split
  · exact hv
  · exact Nat.lt_of_le_of_lt (Nat.mod_le _ _) hv

/-- Bytes as a list of the model's. -/
def oct (l : List Nat) : List UInt8 := l.map UInt8.ofNat
theorem oct_V (l : List Nat) (h : ∀ x ∈ l, x < 256) : (oct l).map (fun b => Value.int .u8 b.toNat) = bytesV l := by
  simp only [oct, bytesV, List.map_map]
  apply List.map_congr_left
  intro x hx
  have : (UInt8.ofNat x).toNat = x := by simp [UInt8.toNat_ofNat']; exact h x hx
  simp [this]
theorem oct_len (l : List Nat) : (oct l).length = l.length := by simp [oct]
theorem Rd.oct {F : Nat → Prop} {w : World} {v : Value} {l : List Nat} (h : Rd F w v l.length (bytesV l)) (hl : ∀ x ∈ l, x < 256) : Rd F w v (oct l).length ((oct l).map fun b => .int .u8 b.toNat) := by rw [oct_V l hl, oct_len]; exact h
theorem oct_inj (l m : List Nat) (h : ∀ x ∈ l, x < 256) (k : ∀ x ∈ m, x < 256) (e : oct l = oct m) : l = m := by
  have h1 : ∀ l : List Nat, (∀ x ∈ l, x < 256) → (oct l).map UInt8.toNat = l := by
    intro l h
    simp only [oct, List.map_map]
    conv => rhs; rw [← List.map_id l]
    apply List.map_congr_left
    intro x hx
    simp [UInt8.toNat_ofNat']; exact h x hx
  rw [← h1 l h, ← h1 m k, e]

theorem same_c {w : World} {Fa Fb : Nat → Prop} {va vb : Value} {la lb : List Nat} (ha : Rd Fa w va la.length (bytesV la)) (hb : Rd Fb w vb lb.length (bytesV lb)) (fa : ∀ x ∈ la, x < 256) (fb : ∀ x ∈ lb, x < 256) :
    Calls Try.prog 25 [va, vb].toArray w (Ret fun r w' => r = .bool (decide (la = lb)) ∧ w' = w) := by
  refine F_sound c25 (by simp [fc25]) ?_
  simp [fc25, s25]
  have ha' : Rd Fa w va (oct la).length ((oct la).map fun b => .int .u8 b.toNat) := by rw [oct_V la fa, oct_len]; exact ha
  have hb' : Rd Fb w vb (oct lb).length ((oct lb).map fun b => .int .u8 b.toNat) := by rw [oct_V lb fb, oct_len]; exact hb
  refine str_r (e := 5) (by kernel_rfl) (by kernel_rfl) (by kernel_rfl) ha' (by simp) ⟨by simp, ?_⟩
  refine str_r (e := 5) (by kernel_rfl) (by kernel_rfl) (by kernel_rfl) hb' (by simp) ⟨by simp, ?_⟩
  simp [ByteArray.toList_eq]
  rw [Bool.eq_iff_iff]
  simp
  exact ⟨oct_inj _ _ fa fb, fun h => by rw [h]⟩

/-- Whose blocks all lie beyond W, and W has stayed. -/
structure Own (W w : World) (F : Nat → Prop) : Prop where
  far : ∀ k, F k → W.heap.size ≤ k
  mod : Mod none' W w
theorem Own.step {W w w' : World} {F F' G : Nat → Prop} (h : Own W w F) (hm : Mod G w w') (hG : ∀ k, G k → F k) (hF : ∀ k, F' k → F k ∨ w.heap.size ≤ k) : Own W w' F' :=
  ⟨fun k hk => (hF k hk).elim (h.far k) (fun h' => Nat.le_trans h.mod.size h'), h.mod.far (fun k hk => h.far k (hG k hk)) hm⟩
theorem Own.new {W w w' : World} {G : Nat → Prop} (h : Mod none' W w) (hm : Mod none' w w') (hG : ∀ k, G k → w.heap.size ≤ k) : Own W w' G :=
  ⟨fun k hk => Nat.le_trans h.size (hG k hk), h.tr hm⟩

end Go.Proofs.Ytajkofndbeohpaa.VG
