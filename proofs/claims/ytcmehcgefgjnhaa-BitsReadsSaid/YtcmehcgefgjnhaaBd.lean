/-
  Bits: what the laws call: known, low, Same, a new writer; what packed bits read as.
-/
import Derived.Test.YtcmehcgefgjnhaaBc
import Derived.Laws.Strings
namespace Go.Proofs.Ytcmehcgefgjnhaa.VG
open Go
set_option linter.unusedSimpArgs false
set_option linter.unusedVariables false

/-! ### Plain: packed bits are read as they are -/
theorem ofB_testBit (l : List Bool) (i : Nat) : (ofB l).testBit i = (if i < l.length then l.getD (l.length - 1 - i) false else false) := by
  rw [← List.reverse_reverse l]
  generalize l.reverse = r
  induction r generalizing i with
  | nil => simp [ofB]
  | cons x r ih =>
    rw [List.reverse_cons, ofB_snoc]
    cases i with
    | zero =>
      rw [Nat.testBit_zero]
      cases x <;> simp <;> omega
    | succ i =>
      rw [Nat.testBit_succ, show (2 * ofB r.reverse + x.toNat) / 2 = ofB r.reverse by cases x <;> simp <;> omega, ih]
      simp only [List.length_append, List.length_reverse, List.length_singleton, Nat.add_lt_add_iff_right]
      split
      · rename_i h
        rw [List.getD_eq_getElem?_getD, List.getD_eq_getElem?_getD, List.getElem?_append_left (by simp; omega)]
        congr 2
        omega
      · rfl

theorem rdb_pack (bs : List Bool) (i : Nat) : rdb (packB bs) i = bs.getD i false := by
  unfold rdb
  have hb : (packB bs).getD (i / 8) 0 = if i / 8 < (bs.length + 7) / 8 then byteAt bs (i / 8) else 0 := by
    rw [List.getD_eq_getElem?_getD]
    by_cases h : i / 8 < (bs.length + 7) / 8
    · simp [packB, h]
    · simp [packB, h]
  rw [hb]
  split
  · rename_i h
    unfold byteAt
    generalize hc : (bs.drop (8 * (i / 8))).take 8 = c
    have hcl : c.length = min 8 (bs.length - 8 * (i / 8)) := by rw [← hc]; simp
    rw [Nat.testBit_mul_two_pow]
    by_cases hi : i < bs.length
    · have h1 : i % 8 < c.length := by omega
      have h2 : 8 - c.length ≤ 7 - i % 8 := by omega
      rw [ofB_testBit]
      have h3 : 7 - i % 8 - (8 - c.length) < c.length := by omega
      simp only [h2, h3, decide_true, Bool.true_and, if_true]
      rw [show c.length - 1 - (7 - i % 8 - (8 - c.length)) = i % 8 by omega, ← hc]
      rw [List.getD_eq_getElem?_getD, List.getD_eq_getElem?_getD, List.getElem?_take_of_lt (by omega), List.getElem?_drop]
      congr 2
      omega
    · have h2 : ¬ 8 - c.length ≤ 7 - i % 8 := by omega
      simp [h2, List.getD_eq_getElem?_getD, List.getElem?_eq_none (Nat.le_of_not_lt hi)]
  · rename_i h
    have hi : bs.length ≤ i := by omega
    simp [List.getD_eq_getElem?_getD, List.getElem?_eq_none hi]

theorem rbits_pack (bs : List Bool) (i n : Nat) (h : i + n ≤ bs.length) : rbits (packB bs) i n = (bs.drop i).take n := by
  apply List.ext_getElem?
  intro j
  by_cases hj : j < n
  · rw [List.getElem?_take_of_lt hj, List.getElem?_drop]
    simp [rbits, hj, rdb_pack, List.getElem?_eq_getElem (show i + j < bs.length by omega)]
  · rw [List.getElem?_eq_none (by simp [rbits]; omega), List.getElem?_eq_none (by simp; omega)]

/-- What Get reads where so many bits were put. -/
theorem rGet_pack (a b c : List Bool) (h : b.length ≤ 64) : rGet (packB (a ++ b ++ c)) a.length 0 b.length = (ofB b, a.length + b.length, 0) := by
  unfold rGet
  have hl := packB_length (a ++ b ++ c)
  simp only [List.length_append] at hl
  rw [if_neg (by simp), if_neg (by omega), if_neg (by rw [Int.toNat_natCast, hl]; omega), Int.toNat_natCast, rbits_pack _ _ _ (by simp)]
  congr 2
  rw [List.append_assoc, List.drop_left, List.take_left]

theorem unF_pack (a c : List Bool) (k m : Nat) (hk : k ≤ m) : ∀ (f z : Nat), z ≤ k → k - z < f → unF (packB (a ++ (List.replicate k false ++ [true]) ++ c)) a.length m f z = (k, a.length + k + 1, 0) := by
  have hl := packB_length (a ++ (List.replicate k false ++ [true]) ++ c)
  simp only [List.length_append, List.length_replicate, List.length_singleton] at hl
  intro f
  induction f with
  | zero => intro z _ h; omega
  | succ f ih =>
    intro z hz hf
    have hb : rdb (packB (a ++ (List.replicate k false ++ [true]) ++ c)) (a.length + z) = decide (z = k) := by
      rw [rdb_pack, List.getD_eq_getElem?_getD, List.getElem?_append_left (by simp; omega), List.getElem?_append_right (by omega), Nat.add_sub_cancel_left]
      by_cases e : z = k
      · subst e; simp
      · rw [List.getElem?_append_left (by simp; omega)]
        simp [e, show z < k by omega]
    by_cases e : z = k
    · subst e
      rw [unF_one (by omega) (by simpa using hb)]
    · rw [unF_go (by omega) (by simpa [e] using hb) (by omega)]
      exact ih (z + 1) (by omega) (by omega)

theorem rUnary_pack (a c : List Bool) (k : Nat) (m : Int) (hk : k ≤ m.toNat) : rUnary (packB (a ++ (List.replicate k false ++ [true]) ++ c)) a.length 0 m = (k, a.length + k + 1, 0) := by
  unfold rUnary
  have hl := packB_length (a ++ (List.replicate k false ++ [true]) ++ c)
  simp only [List.length_append, List.length_replicate, List.length_singleton] at hl
  rw [if_neg (by simp)]
  exact unF_pack a c k m.toNat hk _ 0 (by omega) (by omega)

/-! ### Memory of one's own -/
theorem Mod.far {W w w' : World} {F : Nat → Prop} (h : Mod none' W w) (hF : ∀ k, F k → W.heap.size ≤ k) (m : Mod F w w') : Mod none' W w' :=
  h.trans m (fun k hk hf => by have := hF k hf; omega)

theorem packB_fits (bs : List Bool) : ∀ x ∈ packB bs, x < 256 := by
  intro x hx
  simp only [packB, List.mem_map] at hx
  obtain ⟨j, _, rfl⟩ := hx
  exact byteAt_lt bs j

theorem newWr {w' : World} {b : Nat} {el : TypeId} (hb : w'.heap[b]? = some (.cells #[.slice none 0 0, .int .i64 0] el (0, 0))) : Wr w' (fun k => k = b) b [] :=
  ⟨fun k hk => hk ▸ heap_lt hb, rfl, _, el, by simpa using hb, World.ownsRow_nil _ _ _ _, fun k h => by simp [Value.ownBlock] at h⟩

theorem Fresh.rd {w w' : World} {v : Value} {l : List Nat} (h : Fresh w w' v l) : Rd (fun k => w.heap.size ≤ k ∧ k < w'.heap.size) w' v l.length (bytesV l) :=
  (Rd.of_owns h.1).mono fun k hk => ⟨hk.2, own_lt h.1 hk.1⟩

/-! ### Calls -/
def lowN (v n : Nat) : Nat := if 64 ≤ n then v else v % 2 ^ n
theorem lowN_lt (v n : Nat) (hv : v < 18446744073709551616) : lowN v n < 2 ^ n := by
  unfold lowN
  split
  · rename_i h
    have : 2 ^ 64 ≤ 2 ^ n := Nat.pow_le_pow_right (by omega) h
    omega
  · exact Nat.mod_lt _ (Nat.two_pow_pos _)
theorem lowN_lt64 (v n : Nat) (hv : v < 18446744073709551616) : lowN v n < 18446744073709551616 := by
  unfold lowN
  split
  · exact hv
  · exact Nat.lt_of_le_of_lt (Nat.mod_le _ _) hv

theorem low_c {w : World} (v n : Nat) (hv : v < 18446744073709551616) (hn : n < 9223372036854775808) :
    Calls Try.prog 12 [.int .u64 v, .int .i64 n].toArray w (Ret fun r w' => r = .int .u64 (lowN v n) ∧ w' = w) := by
  refine F_sound c12 (by simp [fc12]) ?_
  simp [fc12, s12]
  by_cases h : 64 ≤ n
  · refine ite_r (t := true) (by simp; omega) (fun _ => ?_) (fun h => by cases h)
    simp [lowN, h]
  · refine ite_r (t := false) (by simp; omega) (fun h => by cases h) (fun _ => ?_)
    have hw : IntKind.u64.wrap (n : Int) = n := wrap_nat_u64 (by omega)
    have hp : 2 ^ n ≤ 2 ^ 63 := Nat.pow_le_pow_right (by omega) (by omega)
    have hp0 := Nat.two_pow_pos n
    have hs : shl .u64 1 (n : Int) = ((2 ^ n : Nat) : Int) := by
      have := shl_nat .u64 1 n (by simp only [IntKind.bits]; omega)
      rw [show ((1 : Nat) : Int) = 1 from rfl] at this
      rw [this, Nat.one_mul]
      exact wrap_nat_u64 (by omega)
    have hs1 : IntKind.u64.wrap (((2 ^ n : Nat) : Int) - 1) = ((2 ^ n - 1 : Nat) : Int) := by
      rw [show ((2 ^ n : Nat) : Int) - 1 = ((2 ^ n - 1 : Nat) : Int) by omega]
      exact wrap_nat_u64 (by omega)
    have ha : bitw .and .u64 (v : Int) ((2 ^ n - 1 : Nat) : Int) = ((v % 2 ^ n : Nat) : Int) := by
      rw [bitw_and (by simpa [IntKind.bits] using hv) (by simp only [IntKind.bits]; omega), Nat.and_two_pow_sub_one_eq_mod]
      exact wrap_nat_u64 (Nat.lt_of_le_of_lt (Nat.mod_le _ _) hv)
    simp only [wp_nil, thn_normal, wp_chk, wp_set, wp_ret', postF_ret, oks_cons, oks_nil, evs_cons, evs_nil, pack_one, E.ev, E.ok, U.val, U.ok, B.val, B.ok, upd_apply, env0_apply]
    simp [hw, lowN, h]
    rw [hs, hs1, ha]
    norm_cast

/-- Bytes as a list of the model's. -/
def oct (l : List Nat) : List UInt8 := l.map UInt8.ofNat
theorem oct_V (l : List Nat) (h : ∀ x ∈ l, x < 256) : (oct l).map (fun b => Value.int .u8 b.toNat) = bytesV l := by
  simp only [oct, bytesV, List.map_map]
  apply List.map_congr_left
  intro x hx
  have : (UInt8.ofNat x).toNat = x := by simp [UInt8.toNat_ofNat']; exact h x hx
  simp [this]
theorem oct_len (l : List Nat) : (oct l).length = l.length := by simp [oct]
theorem Rd.oct {F : Nat → Prop} {w : World} {v : Value} {l : List Nat} (h : Rd F w v l.length (bytesV l)) (hl : ∀ x ∈ l, x < 256) : Rd F w v (oct l).length ((oct l).map fun b => .int .u8 b.toNat) := by rw [oct_V l hl, oct_len]; exact h
theorem oct_inj (l m : List Nat) (h : ∀ x ∈ l, x < 256) (k : ∀ x ∈ m, x < 256) (e : oct l = oct m) : l = m := by
  have h1 : ∀ l : List Nat, (∀ x ∈ l, x < 256) → (oct l).map UInt8.toNat = l := by
    intro l h
    simp only [oct, List.map_map]
    conv => rhs; rw [← List.map_id l]
    apply List.map_congr_left
    intro x hx
    simp [UInt8.toNat_ofNat']; exact h x hx
  rw [← h1 l h, ← h1 m k, e]

theorem same_c {w : World} {Fa Fb : Nat → Prop} {va vb : Value} {la lb : List Nat} (ha : Rd Fa w va la.length (bytesV la)) (hb : Rd Fb w vb lb.length (bytesV lb)) (fa : ∀ x ∈ la, x < 256) (fb : ∀ x ∈ lb, x < 256) :
    Calls Try.prog 14 [va, vb].toArray w (Ret fun r w' => r = .bool (decide (la = lb)) ∧ w' = w) := by
  refine F_sound c14 (by simp [fc14]) ?_
  simp [fc14, s14]
  have ha' : Rd Fa w va (oct la).length ((oct la).map fun b => .int .u8 b.toNat) := by rw [oct_V la fa, oct_len]; exact ha
  have hb' : Rd Fb w vb (oct lb).length ((oct lb).map fun b => .int .u8 b.toNat) := by rw [oct_V lb fb, oct_len]; exact hb
  refine str_r (e := 5) (by kernel_rfl) (by kernel_rfl) (by kernel_rfl) ha' (by simp) ⟨by simp, ?_⟩
  refine str_r (e := 5) (by kernel_rfl) (by kernel_rfl) (by kernel_rfl) hb' (by simp) ⟨by simp, ?_⟩
  simp [ByteArray.toList_eq]
  rw [Bool.eq_iff_iff]
  simp
  exact ⟨oct_inj _ _ fa fb, fun h => by rw [h]⟩

/-- Whose blocks all lie beyond W, and W has stayed. -/
structure Own (W w : World) (F : Nat → Prop) : Prop where
  far : ∀ k, F k → W.heap.size ≤ k
  mod : Mod none' W w
theorem Own.step {W w w' : World} {F F' G : Nat → Prop} (h : Own W w F) (hm : Mod G w w') (hG : ∀ k, G k → F k) (hF : ∀ k, F' k → F k ∨ w.heap.size ≤ k) : Own W w' F' :=
  ⟨fun k hk => (hF k hk).elim (h.far k) (fun h' => Nat.le_trans h.mod.size h'), h.mod.far (fun k hk => h.far k (hG k hk)) hm⟩
theorem Own.new {W w w' : World} {G : Nat → Prop} (h : Mod none' W w) (hm : Mod none' w w') (hG : ∀ k, G k → w.heap.size ≤ k) : Own W w' G :=
  ⟨fun k hk => Nat.le_trans h.size (hG k hk), h.tr hm⟩

set_option maxHeartbeats 1000000 in
theorem known_c {w : World} : Calls Try.prog 10 [].toArray w (Ret fun r w' => r = .bool true ∧ Mod none' w w') := by
  refine F_sound c10 (by simp [fc10]) ?_
  simp [fc10, s10]
  refine box_r (.agg #[.slice none 0 0, .int .i64 0]) (by simp) ?_
  intro b w1 hb hb1 hm1 _
  have hW := newWr hb1
  have O1 : Own w w1 (fun k => k = b) := .new (Mod.refl _ _) hm1 (fun k hk => by omega)
  refine ⟨by simp, ?_⟩
  simp
  refine call_r _ (put_yes hW 5 3 (by omega) (by omega) (by simp)) (by simp) ?_
  rintro r w2 ⟨rfl, F2, hW2, hM2, hF2⟩
  have O2 := O1.step hM2 (fun _ h => h) hF2
  refine ⟨by simp, ?_⟩
  simp
  refine call_r _ (unary_yes hW2 2 (by omega) (by simp [toB_length])) (by simp) ?_
  rintro r w3 ⟨rfl, F3, hW3, hM3, hF3⟩
  have O3 := O2.step hM3 (fun _ h => h) hF3
  refine ⟨by simp, ?_⟩
  simp
  refine call_r _ (bytes_c hW3 (by simp [toB_length])) (by simp) ?_
  rintro v w4 hv
  have hW4 := hW3.mod hv.2 (fun _ _ h => h)
  have O4 := O3.step hv.2 (fun _ h => h.elim) (fun k hk => .inl hk)
  refine ⟨by simp, ?_⟩
  simp
  have hpk : packB ([] ++ toB 5 3 ++ (List.replicate 2 false ++ [true])) = [164] := by decide
  rw [hpk] at hv
  refine call_r _ (new_c hv.rd (by simp) (by simp)) (by simp) ?_
  rintro r w5 ⟨c, G, rfl, hR, hM5, hG⟩
  have hv5 := hv.rd.mod hM5 (fun _ _ h => h)
  have hW5 := hW4.mod hM5 (fun _ _ h => h)
  have O5 := O4.step hM5 (fun _ h => h.elim) (fun k hk => .inl hk)
  have P5 : Own w w5 G := .new O4.mod hM5 hG
  refine ⟨by simp, ?_⟩
  simp
  refine ite_r (t := false) (by simp) (fun h => by cases h) (fun _ => ?_)
  simp
  refine call_r _ (get_c hR 3) (by simp) ?_
  have hg : rGet [164] 0 0 3 = (5, 3, 0) := by decide
  rw [hg]
  rintro r w6 ⟨rfl, hR6, hM6⟩
  have hGc : ∀ k, F3 k → ¬ k = c := fun k hk e => by have := hW4.lt k hk; have := hG c hR.me; omega
  have hv6 := hv5.mod hM6 (fun k hk e => by have := hG c hR.me; omega)
  have hW6 := hW5.mod hM6 hGc
  have P6 := P5.step hM6 (fun k h => h ▸ hR.me) (fun k hk => .inl hk)
  refine ⟨by simp, ?_⟩
  simp
  refine call_r _ (runary_c hR6 9) (by simp) ?_
  have hg : rUnary [164] 3 0 9 = (2, 6, 0) := by decide
  rw [hg]
  rintro r w7 ⟨rfl, hR7, hM7⟩
  have hW7 := hW6.mod hM7 hGc
  have hv7 := hv6.mod hM7 (fun k hk e => by have := hG c hR.me; omega)
  have P7 := P6.step hM7 (fun k h => h ▸ hR.me) (fun k hk => .inl hk)
  refine ⟨by simp, ?_⟩
  simp
  refine ifg_r (t := true) (by simp) (fun _ => ?_) (fun h => (h rfl).elim)
  refine call_r _ (len_c hW7) (by simp) ?_
  rintro r w8 ⟨rfl, rfl⟩
  refine ⟨by simp, ?_⟩
  simp [toB_length]
  refine ifg_r (t := true) (by simp) (fun _ => ?_) (fun h => (h rfl).elim)
  refine str_r (e := 5) (by kernel_rfl) (by kernel_rfl) (by kernel_rfl) (hv7.oct (by simp)) (by simp) ⟨by simp, ?_⟩
  simp [ByteArray.toList_eq, oct]
  refine ifg_r (t := true) (by simp) (fun _ => ?_) (fun h => (h rfl).elim)
  refine call_r _ (at_c hR7) (by simp) ?_
  rintro r w8 ⟨rfl, rfl⟩
  refine ⟨by simp, ?_⟩
  simp
  refine ifg_r (t := true) (by simp) (fun _ => ?_) (fun h => (h rfl).elim)
  refine call_r _ (left_c hR7) (by simp) ?_
  rintro r w9 ⟨rfl, hM9⟩
  refine ⟨by simp, ?_⟩
  simp
  exact P7.mod.tr hM9

end Go.Proofs.Ytcmehcgefgjnhaa.VG
