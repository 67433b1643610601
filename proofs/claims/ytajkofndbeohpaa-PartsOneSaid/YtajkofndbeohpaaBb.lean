/-
  Bits: the writer: what each of its calls comes to.
-/
import Derived.Test.YtajkofndbeohpaaVgM
import Derived.Test.YtajkofndbeohpaaIr
import Derived.Test.YtajkofndbeohpaaBa
namespace Go.Proofs.Ytajkofndbeohpaa.VG
open Go
set_option linter.unusedSimpArgs false
set_option linter.unusedVariables false

def bytesV (l : List Nat) : List Value := l.map fun (n : Nat) => Value.int .u8 n

/-- The writer at block b holds the bits bs; its blocks are those of F. -/
structure Wr (w : World) (F : Nat → Prop) (b : Nat) (bs : List Bool) : Prop where
  lt : ∀ k, F k → k < w.heap.size
  me : F b
  is : ∃ s el, w.heap[b]? = some (.cells #[s, .int .i64 bs.length] el (0, 0)) ∧ w.ownsRow 0 5 1 s (packB bs).length (bytesV (packB bs)) ∧ ∀ k, s.ownBlock = some k → F k ∧ k ≠ b

theorem Wr.mod {w w' : World} {F S : Nat → Prop} {b : Nat} {bs : List Bool} (h : Wr w F b bs) (m : Mod S w w') (hd : ∀ k, F k → ¬ S k) : Wr w' F b bs := by
  obtain ⟨s, el, h1, h2, h3⟩ := h.is
  exact ⟨fun k hk => Nat.lt_of_lt_of_le (h.lt k hk) m.size, h.me, s, el, m.heap h1 (hd b h.me), m.owns h2 (fun k hk => hd k (h3 k hk).1), h3⟩

/-- What a call leaves of a writer. -/
def WrAfter (w : World) (F : Nat → Prop) (b : Nat) (bs : List Bool) (w' : World) : Prop :=
  ∃ F', Wr w' F' b bs ∧ Mod F w w' ∧ ∀ k, F' k → F k ∨ w.heap.size ≤ k

theorem slT8 : SlT Try.prog 33 5 1 1 := ⟨by kernel_rfl, ⟨_, _, rfl, rfl, rfl, rfl, rfl⟩, by omega⟩

/-- Between the two steps of 'bit': the bytes have room for one more bit. -/
structure BitMid (w : World) (F : Nat → Prop) (b : Nat) (bs : List Bool) (el : TypeId) (x : Bool) (env' : Env) (w' : World) : Prop where
  e0 : env' 0 = .pointer (some ⟨b, 0, none⟩)
  e1 : env' 1 = .int .u8 x.toNat
  mod : Mod F w w'
  is : ∃ s', w'.heap[b]? = some (.cells #[s', .int .i64 bs.length] el (0, 0)) ∧ w'.ownsRow 0 5 1 s' (if bs.length % 8 = 0 then packB bs ++ [0] else packB bs).length (bytesV (if bs.length % 8 = 0 then packB bs ++ [0] else packB bs)) ∧
    ∀ k, s'.ownBlock = some k → (F k ∨ w.heap.size ≤ k) ∧ k ≠ b

theorem own_one {w : World} {base e size : Nat} {v : Value} {n : Nat} {xs : List Value} (h : w.ownsRow base e size v n xs) : one1 v = true := by
  rcases h.2 with ⟨rfl, _⟩ | ⟨g, cap, cur, rfl, _⟩ <;> rfl

theorem own_lt {w : World} {base e size : Nat} {v : Value} {n : Nat} {xs : List Value} (h : w.ownsRow base e size v n xs) {k : Nat} (hk : v.ownBlock = some k) : k < w.heap.size := (h.lt k hk).2

set_option maxHeartbeats 1000000 in
theorem bit_c {w : World} {F : Nat → Prop} {b : Nat} {bs : List Bool} (h : Wr w F b bs) (hlen : bs.length < 1099511627776) (x : Bool) :
    Calls Try.prog 62 [.pointer (some ⟨b, 0, none⟩), .int .u8 x.toNat].toArray w (Ret fun v w' => v = .tuple #[] ∧ WrAfter w F b (bs ++ [x]) w') := by
  refine F_sound c62 (by simp [fc62]) ?_
  obtain ⟨s, el, hb, hs, hF⟩ := h.is
  have hc0 := cell_blk hb 0
  have hc1 := cell_blk hb 1
  have hpl := packB_length bs
  simp [fc62, s62, hc0, hc1]
  have hn8 : ((bs.length : Int).tmod 8 == 0) = decide (bs.length % 8 = 0) := by
    rw [tmod_nn (by omega), Bool.eq_iff_iff]; simp; omega
  refine ite_cut (t := decide (bs.length % 8 = 0)) (BitMid w F b bs el x) ?_ ?_ ?_ ?_
  · simp [hc1, hn8]
  · intro ht
    have ht : bs.length % 8 = 0 := by simpa using ht
    simp [hc0]
    refine app1_r slT8 hs (u := .int .u8 0) (by simp) (by omega) (by omega) (by unfold maxLen; omega) rfl (by simp) (by simp) (by simp) ?_
    intro vb v' w1 w' _ hs' hmod hnew _
    have hbs : s.ownBlock ≠ some b := fun e => (hF b e).2 rfl
    have hb' := hmod.heap hb hbs
    have hvb : ∀ k, v'.ownBlock = some k → (F k ∨ w.heap.size ≤ k) ∧ k ≠ b := fun k hk => by
      rcases hnew k hk with h1 | h1
      · exact ⟨.inl (hF k h1).1, (hF k h1).2⟩
      · exact ⟨.inr h1, by have := h.lt b h.me; omega⟩
    refine ⟨by simp, ?_⟩
    simp
    refine st_r (b := b) (o := 0) (v := v') (by simp) (by simp) hb' (by simp) (own_one hs') ?_
    intro w2 hb2 hm2 hsz2
    refine ⟨by simp, ?_⟩
    refine ⟨by simp, by simp, (hmod.mono fun k _ hk => (hF k hk).1).trans hm2 (fun k _ hk => hk ▸ h.me), v', by simpa using hb2, ?_, hvb⟩
    have := hm2.owns hs' (fun k hk e => (hvb k hk).2 e)
    simpa [ht, bytesV] using this
  · intro ht
    have ht : ¬ bs.length % 8 = 0 := by simpa using ht
    simp only [wp_nil, thn_normal]
    refine ⟨by simp, by simp, Mod.refl _ _, s, hb, by simpa [ht] using hs, fun k hk => ⟨.inl (hF k hk).1, (hF k hk).2⟩⟩
  · rintro env' w' ⟨e0, e1, hm, s', hb', hs', hF'⟩
    generalize hD : (if bs.length % 8 = 0 then packB bs ++ [0] else packB bs) = D at *
    have hDl : bs.length / 8 < D.length := by rw [← hD]; split <;> (try rw [List.length_append]) <;> (try simp only [List.length_singleton]) <;> omega
    have hd0 := cell_blk hb' 0
    have hd1 := cell_blk hb' 1
    obtain ⟨g, cap, cur, hsv, hg0, hg, hnc, hcm, hcs, htake⟩ : ∃ g cap cur, s' = .slice (some ⟨g, 0, none⟩) D.length cap ∧ 0 ≤ g ∧ w'.heap[g]? = some (.cells cur 5 (0, 0)) ∧ D.length ≤ cap ∧ cap ≤ maxLen ∧ cur.size = cap * 1 ∧ cur.toList.take (D.length * 1) = bytesV D := by
      rcases hs'.2 with ⟨_, h0⟩ | h0
      · omega
      · exact h0
    subst hsv
    have hgc := cell_blk hg (bs.length / 8)
    have hsz : bs.length / 8 < cur.size := by omega
    have hbg : b ≠ g := fun e => (hF' g rfl).2 e.symm
    have hval : cur[bs.length / 8]? = some (.int .u8 (byteAt bs (bs.length / 8) : Nat)) := by
      have h1 : (bytesV D)[bs.length / 8]? = some (.int .u8 (byteAt bs (bs.length / 8) : Nat)) := by
        have h2 : D[bs.length / 8]? = some (byteAt bs (bs.length / 8)) := by
          rw [← hD]
          split
          · rename_i h8
            rw [byteAt_zero bs h8, List.getElem?_append_right (by omega)]
            simp [hpl, show bs.length / 8 - (bs.length + 7) / 8 = 0 by omega]
          · simp [packB, show bs.length / 8 < (bs.length + 7) / 8 by omega]
        simp [bytesV, h2]
      rw [← htake] at h1
      rw [← Array.getElem?_toList]
      simp only [List.getElem?_take] at h1
      split at h1
      · exact h1
      · cases h1
    have hw1 : IntKind.i64.wrap ((bs.length : Int) / 8) = (bs.length : Int) / 8 := wrap_i64 (by omega) (by omega)
    have hn1 : ((bs.length : Int) / 8).toNat = bs.length / 8 := by omega
    have hw2 : (bs.length : Int).tdiv 8 = (bs.length : Int) / 8 := tdiv_nn (by omega)
    have hw3 : (bs.length : Int).tmod 8 = (bs.length : Int) % 8 := tmod_nn (by omega)
    have hw4 : IntKind.i64.wrap (7 - (bs.length : Int) % 8) = 7 - (bs.length : Int) % 8 := wrap_i64 (by omega) (by omega)
    have hw5 : shl .u8 (x.toNat : Int) (7 - (bs.length : Int) % 8) = ((x.toNat * 2 ^ (7 - bs.length % 8) : Nat) : Int) := by
      rw [show (7 - (bs.length : Int) % 8) = ((7 - bs.length % 8 : Nat) : Int) by omega, shl_nat _ _ _ (by simp [IntKind.bits]; omega)]
      apply wrap_nat_u8
      have h7 : 2 ^ (7 - bs.length % 8) ≤ 2 ^ 7 := Nat.pow_le_pow_right (by omega) (by omega)
      cases x <;> simp <;> omega
    have hxl : x.toNat * 2 ^ (7 - bs.length % 8) < 256 := by
      have h7 : 2 ^ (7 - bs.length % 8) ≤ 2 ^ 7 := Nat.pow_le_pow_right (by omega) (by omega)
      cases x <;> simp <;> omega
    have hw6 : bitw .or .u8 (byteAt bs (bs.length / 8) : Nat) ((x.toNat * 2 ^ (7 - bs.length % 8) : Nat) : Int) = ((byteAt (bs ++ [x]) (bs.length / 8) : Nat) : Int) := by
      rw [bitw_or (byteAt_lt _ _) hxl, byteAt_snoc_self]
      exact wrap_nat_u8 (by rw [← byteAt_snoc_self]; exact byteAt_lt _ _)
    simp [e0, e1, hd0, hd1, hw1, hw2, hw3, hw4, hn1, hgc, hval]
    refine ⟨⟨by omega, by omega⟩, by omega, ⟨by omega, by omega⟩, ?_⟩
    refine st_r (b := g) (o := bs.length / 8) (c := cur) (el := 5) (v := .int .u8 (byteAt (bs ++ [x]) (bs.length / 8) : Nat)) (by simp [hw1, hw2, hn1]) ?_ hg hsz (by simp) ?_
    · simp only [E.ev, upd_apply]
      simp [e1, hw3, hw4, hw5]
      exact hw6
    intro w2 hg2 hm2 hsz2
    have hb2 := hm2.heap (b := b) hb' hbg
    have hb21 := cell_blk hb2 1
    have hw7 : IntKind.i64.wrap ((bs.length : Int) + 1) = (bs.length : Int) + 1 := wrap_i64 (by omega) (by omega)
    refine ⟨by simp, ?_⟩
    simp [e0, hb21]
    refine st_r (b := b) (o := 1) (v := .int .i64 ((bs.length : Int) + 1)) (by simp [e0]) (by simp [hw7]) hb2 (by simp) (by simp) ?_
    intro w3 hb3 hm3 hsz3
    have hg3 := hm3.heap hg2 (fun e => hbg e.symm)
    refine ⟨by simp, ?_⟩
    have hm23 : Mod (fun k => k = b ∨ k = g) w' w3 := (Mod.drew (Mod.refl _ _)).tr ((hm2.mono fun k _ h => .inr h).trans hm3 (fun k _ h => .inl h))
    have hFg := (hF' g rfl).1
    simp
    refine ⟨fun k => k = b ∨ k = g, ⟨?_, .inl rfl, .slice (some ⟨g, 0, none⟩) D.length cap, el, by simpa using hb3, ?_, ?_⟩, hm.trans hm23 ?_, ?_⟩
    · rintro k (rfl | rfl)
      · exact heap_lt hb3
      · exact heap_lt hg3
    · have hps := packB_snoc bs x
      rw [hD] at hps
      have hpsl : (packB (bs ++ [x])).length = D.length := by rw [hps]; simp
      rw [hpsl]
      refine ⟨by simp [bytesV, hpsl], .inr ⟨g, cap, _, rfl, hg0, hg3, hnc, hcm, by simpa using hcs, ?_⟩⟩
      rw [hps]
      simp only [Array.toList_setIfInBounds, Nat.mul_one, bytesV, List.map_set] at htake ⊢
      rw [List.take_set, htake]
    · intro k hk
      simp [Value.ownBlock] at hk
      subst hk
      exact ⟨.inr rfl, fun e => hbg e.symm⟩
    · rintro k hk (rfl | rfl)
      · exact h.me
      · exact hFg.resolve_right (by omega)
    · rintro k (rfl | rfl)
      · exact .inl h.me
      · exact hFg
theorem WrAfter.refl {w : World} {F : Nat → Prop} {b : Nat} {bs : List Bool} (h : Wr w F b bs) : WrAfter w F b bs w := ⟨F, h, Mod.refl _ _, fun _ h => .inl h⟩

/-- One call after another. -/
theorem WrAfter.step {w w1 w2 : World} {F F1 : Nat → Prop} {b : Nat} {cs : List Bool} (hm : Mod F w w1) (hF : ∀ k, F1 k → F k ∨ w.heap.size ≤ k) (h : WrAfter w1 F1 b cs w2) : WrAfter w F b cs w2 := by
  obtain ⟨F2, h1, h2, h3⟩ := h
  refine ⟨F2, h1, hm.trans h2 (fun k hk h => (hF k h).resolve_right (by omega)), fun k hk => ?_⟩
  rcases h3 k hk with h | h
  · exact hF k h
  · exact .inr (Nat.le_trans hm.size h)

theorem bitarg (v i : Nat) (hv : v < 18446744073709551616) (hi : i ≤ 64) : IntKind.u8.wrap (bitw .and .u64 (shr .u64 v i) 1) = (v.testBit i).toNat := by
  rw [shr_nat _ _ _ (by simpa [IntKind.bits] using hi), bitw_and1 (by have : v / 2 ^ i ≤ v := Nat.div_le_self _ _; simp only [IntKind.bits]; omega), Nat.toNat_testBit]
  exact wrap_nat_u8 (by omega)

theorem shr_small (v n : Nat) (h : v < 2 ^ n) (hn : n ≤ 64) : shr .u64 v n = 0 := by
  rw [shr_nat _ _ _ (by simpa [IntKind.bits] using hn), Nat.div_eq_of_lt h]; rfl

theorem lt_of_pow {v n : Nat} (h : v < 2 ^ n) (hn : n ≤ 64) : v < 18446744073709551616 := by
  have : 2 ^ n ≤ 2 ^ 64 := Nat.pow_le_pow_right (by omega) hn
  omega

set_option maxHeartbeats 1000000 in
theorem put_yes {w : World} {F : Nat → Prop} {b : Nat} {bs : List Bool} (h : Wr w F b bs) (v n : Nat) (hn : n ≤ 64) (hv : v < 2 ^ n) (hlen : bs.length + n < 1099511627776) :
    Calls Try.prog 38 [.pointer (some ⟨b, 0, none⟩), .int .u64 v, .int .i64 n].toArray w (Ret fun r w' => r = .int .i64 0 ∧ WrAfter w F b (bs ++ toB v n) w') := by
  refine F_sound c38 (by simp [fc38]) ?_
  have hv64 := lt_of_pow hv hn
  have hs0 := shr_small v n hv hn
  have hw1 : IntKind.i64.wrap ((n : Int) - 1) = (n : Int) - 1 := wrap_i64 (by omega) (by omega)
  simp [fc38, s38]
  refine ite_r (t := false) ?_ (fun h => by cases h) (fun _ => ?_)
  · simp [hs0]; omega
  simp [hw1]
  refine loop_r (fun m env' w' => m ≤ n ∧ env' 0 = .pointer (some ⟨b, 0, none⟩) ∧ env' 1 = .int .u64 v ∧ env' 7 = .int .i64 ((m : Int) - 1) ∧ WrAfter w F b (bs ++ (toB v n).take (n - m)) w') n ?_ ?_
  · refine ⟨Nat.le_refl _, by simp, by simp, by simp, ?_⟩
    simpa using WrAfter.refl h
  · rintro m env' w' ⟨hm, e0, e1, e7, F1, hW, hM, hF⟩
    simp [e7]
    by_cases h0 : m = 0
    · subst h0
      refine ite_r (t := false) (by simp) (fun h => by cases h) (fun _ => ?_)
      simp
      have : (toB v n).take n = toB v n := List.take_of_length_le (by rw [toB_length]; omega)
      rw [Nat.sub_zero, this] at hW
      exact ⟨F1, hW, hM, hF⟩
    · refine ite_r (t := true) (by simp; omega) (fun _ => ?_) (fun h => by cases h)
      simp
      rw [wp_blk]
      have hb1 := bitarg v (m - 1) hv64 (by omega)
      have hc : ((m : Int) - 1) = ((m - 1 : Nat) : Int) := by omega
      have hw2 : IntKind.i64.wrap ((m : Int) - 1 - 1) = (m : Int) - 1 - 1 := wrap_i64 (by omega) (by omega)
      simp [e1, e7]
      refine ⟨by omega, ?_⟩
      refine call_r _ (bit_c hW (by simp [toB_length]; omega) (v.testBit (m - 1))) (by simp [e0, e1, e7, hc, hb1]) ?_
      rintro r w2 ⟨rfl, hA⟩
      refine ⟨by simp, ?_⟩
      simp [e7, hw2]
      refine ⟨m - 1, by omega, by omega, by simp [e0], by simp [e1], by omega, ?_⟩
      have := WrAfter.step hM hF hA
      rwa [List.append_assoc, ← toB_take v n m (by omega) hm] at this

/-- Put of what may not be put. -/
theorem put_no {w : World} {F : Nat → Prop} {b : Nat} {bs : List Bool} (h : Wr w F b bs) (v : Nat) (n : Int) (hv : v < 18446744073709551616) (hno : ¬ (0 ≤ n ∧ n ≤ 64 ∧ v < 2 ^ n.toNat)) :
    Calls Try.prog 38 [.pointer (some ⟨b, 0, none⟩), .int .u64 v, .int .i64 n].toArray w (Ret fun r w' => r = .int .i64 1 ∧ w' = w) := by
  refine F_sound c38 (by simp [fc38]) ?_
  simp [fc38, s38]
  refine ⟨by omega, ?_⟩
  refine ite_r (t := true) ?_ (fun _ => ?_) (fun h => by cases h)
  · simp
    by_cases h1 : n < 0
    · exact .inl (.inl h1)
    · by_cases h2 : 64 < n
      · exact .inl (.inr h2)
      · refine .inr ?_
        have h3 : 2 ^ n.toNat ≤ v := by omega
        rw [show n = (n.toNat : Int) by omega, shr_nat _ _ _ (by simp [IntKind.bits]; omega)]
        have : 0 < v / 2 ^ n.toNat := Nat.div_pos h3 (Nat.two_pow_pos _)
        omega
  · simp

set_option maxHeartbeats 1000000 in
theorem unary_yes {w : World} {F : Nat → Prop} {b : Nat} {bs : List Bool} (h : Wr w F b bs) (n : Nat) (hn : n ≤ 4096) (hlen : bs.length + n + 1 < 1099511627776) :
    Calls Try.prog 70 [.pointer (some ⟨b, 0, none⟩), .int .i64 n].toArray w (Ret fun r w' => r = .int .i64 0 ∧ WrAfter w F b (bs ++ (List.replicate n false ++ [true])) w') := by
  refine F_sound c70 (by simp [fc70]) ?_
  simp [fc70, s70]
  refine ite_r (t := false) (by simp; omega) (fun h => by cases h) (fun _ => ?_)
  simp
  refine loop_w (fun m env' w' => ∃ i : Nat, i ≤ n ∧ m = n - i ∧ env' 0 = .pointer (some ⟨b, 0, none⟩) ∧ env' 11 = .int .i64 n ∧ env' 12 = .int .i64 i ∧ WrAfter w F b (bs ++ List.replicate i false) w') n
    (fun env' w' => env' 0 = .pointer (some ⟨b, 0, none⟩) ∧ WrAfter w F b (bs ++ List.replicate n false) w') ?_ ?_ ?_
  · exact ⟨0, by omega, by omega, by simp, by simp, by simp, by simpa using WrAfter.refl h⟩
  · rintro m env' w' ⟨i, hi, hm, e0, e11, e12, hA⟩
    simp [e11, e12]
    by_cases hlt : i < n
    · refine ite_r (t := true) (by simp; omega) (fun _ => ?_) (fun h => by cases h)
      simp
      rw [wp_blk]
      obtain ⟨F1, hW, hM, hF⟩ := hA
      have hw2 : IntKind.i64.wrap ((i : Int) + 1) = (i : Int) + 1 := wrap_i64 (by omega) (by omega)
      refine call_r _ (bit_c hW (by simp; omega) false) (by simp [e0]) ?_
      rintro r w2 ⟨rfl, hA⟩
      refine ⟨by simp, ?_⟩
      simp [e12, hw2]
      refine ⟨n - (i + 1), by omega, i + 1, by omega, rfl, by simp [e0], by simp [e11], by omega, ?_⟩
      have := WrAfter.step hM hF hA
      rwa [List.append_assoc, ← List.replicate_succ'] at this
    · obtain rfl : i = n := by omega
      refine ite_r (t := false) (by simp) (fun h => by cases h) (fun _ => ?_)
      simp [e0]
      exact hA
  · rintro env' w' ⟨e0, F1, hW, hM, hF⟩
    refine call_r _ (bit_c hW (by simp; omega) true) (by simp [e0]) ?_
    rintro r w2 ⟨rfl, hA⟩
    refine ⟨by simp, ?_⟩
    simp
    have := WrAfter.step hM hF hA
    rwa [List.append_assoc] at this

theorem unary_no {w : World} {b : Nat} (n : Int) (hno : n < 0 ∨ 4096 < n) :
    Calls Try.prog 70 [.pointer (some ⟨b, 0, none⟩), .int .i64 n].toArray w (Ret fun r w' => r = .int .i64 1 ∧ w' = w) := by
  refine F_sound c70 (by simp [fc70]) ?_
  simp [fc70, s70]
  refine ite_r (t := true) (by simp; omega) (fun _ => ?_) (fun h => by cases h)
  simp

theorem len_c {w : World} {F : Nat → Prop} {b : Nat} {bs : List Bool} (h : Wr w F b bs) :
    Calls Try.prog 23 [.pointer (some ⟨b, 0, none⟩)].toArray w (Ret fun r w' => r = .int .i64 bs.length ∧ w' = w) := by
  refine F_sound c23 (by simp [fc23]) ?_
  obtain ⟨s, el, hb, hs, hF⟩ := h.is
  have hc1 := cell_blk hb 1
  simp [fc23, s23, hc1]

/-- How many zeros fill the last byte. -/
def padN (n : Nat) : Nat := (8 - n % 8) % 8

/-- A slice in memory of its own, which reads the bytes. -/
def Fresh (w w' : World) (v : Value) (l : List Nat) : Prop := w'.ownsRow w.heap.size 5 1 v l.length (bytesV l) ∧ Mod none' w w'

theorem bytesV_one (l : List Nat) : ∀ y ∈ bytesV l, y.oneCell' = true := by
  intro y hy
  simp only [bytesV, List.mem_map] at hy
  obtain ⟨n, _, rfl⟩ := hy
  rfl

theorem bytes_c {w : World} {F : Nat → Prop} {b : Nat} {bs : List Bool} (h : Wr w F b bs) (hlen : bs.length < 1099511627776) :
    Calls Try.prog 26 [.pointer (some ⟨b, 0, none⟩)].toArray w (Ret fun r w' => Fresh w w' r (packB bs)) := by
  refine F_sound c26 (by simp [fc26]) ?_
  obtain ⟨s, el, hb, hs, hF⟩ := h.is
  have hc0 := cell_blk hb 0
  have hpl := packB_length bs
  simp [fc26, s26, hc0]
  refine app_r slT8 (World.ownsRow_nil w w.heap.size 5 1) (Rd.of_owns hs) (by simp [bytesV]) (bytesV_one _) (Nat.le_refl _) (by omega) (by unfold maxLen; omega) rfl (by simp) ?_
  intro v' w' ho hm _ _
  refine ⟨by simp, ?_⟩
  simp
  exact ⟨by simpa using ho, hm.mono fun k _ h => by simp [Value.ownBlock] at h⟩
end Go.Proofs.Ytajkofndbeohpaa.VG
