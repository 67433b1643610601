/-
  Bits: the reader: what each of its calls comes to.
-/
import Derived.Test.YtajkofndbeohpaaBb
namespace Go.Proofs.Ytajkofndbeohpaa.VG
open Go
set_option linter.unusedSimpArgs false
set_option linter.unusedVariables false

/-- The reader at block b of the bytes l: p bits were read; its error is e. -/
structure Rr (w : World) (F : Nat → Prop) (b : Nat) (l : List Nat) (p : Nat) (e : Int) : Prop where
  lt : ∀ k, F k → k < w.heap.size
  me : F b
  fits : ∀ x ∈ l, x < 256
  le : p ≤ 8 * l.length
  small : l.length ≤ 17592186044416
  is : ∃ s el, w.heap[b]? = some (.cells #[s, .int .i64 p, .int .i64 e] el (0, 0)) ∧ w.ownsRow 0 5 1 s l.length (bytesV l) ∧ ∀ k, s.ownBlock = some k → F k ∧ k ≠ b

theorem Rr.mod {w w' : World} {F S : Nat → Prop} {b : Nat} {l : List Nat} {p : Nat} {e : Int} (h : Rr w F b l p e) (m : Mod S w w') (hd : ∀ k, F k → ¬ S k) : Rr w' F b l p e := by
  obtain ⟨s, el, h1, h2, h3⟩ := h.is
  exact ⟨fun k hk => Nat.lt_of_lt_of_le (h.lt k hk) m.size, h.me, h.fits, h.le, h.small, s, el, m.heap h1 (hd b h.me), m.owns h2 (fun k hk => hd k (h3 k hk).1), h3⟩

/-- What a call leaves of a reader: only its own block may have changed. -/
def RrAfter (w : World) (F : Nat → Prop) (b : Nat) (l : List Nat) (p : Nat) (e : Int) (w' : World) : Prop := Rr w' F b l p e ∧ Mod (fun k => k = b) w w'

theorem byte_at {w : World} {F : Nat → Prop} {v : Value} {n : Nat} {l : List Nat} (h : Rd F w v n (bytesV l)) (i : Nat) (hi : i < l.length) : w.cell? ((slB v).add i) = some (.int .u8 (l.getD i 0 : Nat)) :=
  h.cell i _ (by simp [bytesV, hi])

theorem shr_and1 (x y : Nat) (hx : x < 256) (hy : y ≤ 7) : bitw .and .u8 (shr .u8 x y) 1 = (x.testBit y).toNat := by
  rw [shr_nat _ _ _ (by simp [IntKind.bits]; omega), bitw_and1 (by have : x / 2 ^ y ≤ x := Nat.div_le_self _ _; simp only [IntKind.bits]; omega), Nat.toNat_testBit]

theorem look_c {w : World} {F : Nat → Prop} {b : Nat} {l : List Nat} {p : Nat} {e : Int} (h : Rr w F b l p e) (i : Nat) (hi : i < 8 * l.length) :
    Calls Try.prog 56 [.pointer (some ⟨b, 0, none⟩), .int .i64 i].toArray w (Ret fun r w' => r = .int .u8 (rdb l i).toNat ∧ w' = w) := by
  refine F_sound c56 (by simp [fc56]) ?_
  obtain ⟨s, el, hb, hs, hF⟩ := h.is
  have hsm := h.small
  have hc0 := cell_blk hb 0
  have hrd := Rd.of_owns hs
  have hcell := byte_at hrd (i / 8) (by omega)
  obtain ⟨cap, hv⟩ := hrd.is
  have hp := (hrd.ptr (by simp [bytesV]; omega)).1
  have hw1 : (i : Int).tdiv 8 = (i : Int) / 8 := tdiv_nn (by omega)
  have hw2 : IntKind.i64.wrap ((i : Int) / 8) = (i : Int) / 8 := wrap_i64 (by omega) (by omega)
  have hn1 : ((i : Int) / 8).toNat = i / 8 := by omega
  have hw3 : (i : Int).tmod 8 = (i : Int) % 8 := tmod_nn (by omega)
  have hw4 : IntKind.i64.wrap (7 - (i : Int) % 8) = 7 - (i : Int) % 8 := wrap_i64 (by omega) (by omega)
  have hS : isS s := by rw [hv]; trivial
  have hL : slL s = l.length := by rw [hv]; rfl
  have hby : l.getD (i / 8) 0 < 256 := by
    rw [List.getD_eq_getElem?_getD, List.getElem?_eq_getElem (by omega), Option.getD_some]
    exact h.fits _ (List.getElem_mem _)
  have hfin := shr_and1 (l.getD (i / 8) 0) (7 - i % 8) hby (by omega)
  rw [show ((7 - i % 8 : Nat) : Int) = 7 - (i : Int) % 8 by omega] at hfin
  simp [fc56, s56, hc0, hS, hp, hL, hw1, hw2, hn1, hw3, hw4, hcell]
  refine ⟨⟨by omega, by omega⟩, by omega, ?_⟩
  simpa [rdb] using hfin

theorem left_c {w : World} {F : Nat → Prop} {b : Nat} {l : List Nat} {p : Nat} {e : Int} (h : Rr w F b l p e) :
    Calls Try.prog 55 [.pointer (some ⟨b, 0, none⟩)].toArray w (Ret fun r w' => r = .int .i64 (8 * (l.length : Int) - p) ∧ Mod none' w w') := by
  refine F_sound c55 (by simp [fc55]) ?_
  obtain ⟨s, el, hb, hs, hF⟩ := h.is
  have hsm := h.small
  have hle := h.le
  have hc0 := cell_blk hb 0
  have hc1 := cell_blk hb 1
  obtain ⟨cap, hv⟩ := (Rd.of_owns hs).is
  have hS : isS s := by rw [hv]; trivial
  have hL : slL s = l.length := by rw [hv]; rfl
  have hw1 : IntKind.i64.wrap (8 * (l.length : Int)) = 8 * (l.length : Int) := wrap_i64 (by omega) (by omega)
  have hw2 : IntKind.i64.wrap (8 * (l.length : Int) - (p : Int)) = 8 * (l.length : Int) - (p : Int) := wrap_i64 (by omega) (by omega)
  simp [fc55, s55, hc0, hc1, hS, hL, hw1, hw2]
  exact (Mod.refl _ _).drew

theorem at_c {w : World} {F : Nat → Prop} {b : Nat} {l : List Nat} {p : Nat} {e : Int} (h : Rr w F b l p e) :
    Calls Try.prog 37 [.pointer (some ⟨b, 0, none⟩)].toArray w (Ret fun r w' => r = .int .i64 p ∧ w' = w) := by
  refine F_sound c37 (by simp [fc37]) ?_
  obtain ⟨s, el, hb, hs, hF⟩ := h.is
  have hc1 := cell_blk hb 1
  simp [fc37, s37, hc1]

theorem err_c {w : World} {F : Nat → Prop} {b : Nat} {l : List Nat} {p : Nat} {e : Int} (h : Rr w F b l p e) :
    Calls Try.prog 59 [.pointer (some ⟨b, 0, none⟩)].toArray w (Ret fun r w' => r = .int .i64 e ∧ w' = w) := by
  refine F_sound c59 (by simp [fc59]) ?_
  obtain ⟨s, el, hb, hs, hF⟩ := h.is
  have hc2 := cell_blk hb 2
  simp [fc59, s59, hc2]

/-- The error is set. -/
theorem Rr.setErr {w w' : World} {F : Nat → Prop} {b : Nat} {l : List Nat} {p : Nat} {e e' : Int} {s : Value} {el : TypeId} (h : Rr w F b l p e) (hb : w'.heap[b]? = some (.cells (#[s, .int .i64 p, .int .i64 e].setIfInBounds 2 (.int .i64 e')) el (0, 0)))
    (hs : w.ownsRow 0 5 1 s l.length (bytesV l)) (hF : ∀ k, s.ownBlock = some k → F k ∧ k ≠ b) (hm : Mod (fun k => k = b) w w') : Rr w' F b l p e' :=
  ⟨fun k hk => Nat.lt_of_lt_of_le (h.lt k hk) hm.size, h.me, h.fits, h.le, h.small, s, el, by simpa using hb, hm.owns hs (fun k hk => (hF k hk).2), hF⟩

theorem Rr.setAt {w w' : World} {F : Nat → Prop} {b : Nat} {l : List Nat} {p p' : Nat} {e : Int} {s : Value} {el : TypeId} (h : Rr w F b l p e) (hp : p' ≤ 8 * l.length) (hb : w'.heap[b]? = some (.cells (#[s, .int .i64 p, .int .i64 e].setIfInBounds 1 (.int .i64 p')) el (0, 0)))
    (hs : w.ownsRow 0 5 1 s l.length (bytesV l)) (hF : ∀ k, s.ownBlock = some k → F k ∧ k ≠ b) (hm : Mod (fun k => k = b) w w') : Rr w' F b l p' e :=
  ⟨fun k hk => Nat.lt_of_lt_of_le (h.lt k hk) hm.size, h.me, h.fits, hp, h.small, s, el, by simpa using hb, hm.owns hs (fun k hk => (hF k hk).2), hF⟩

theorem ofB_lt64 (l : List Bool) (h : l.length < 64) : 2 * ofB l + 1 < 18446744073709551616 := by
  have h1 := ofB_lt l
  have h2 : 2 ^ l.length ≤ 2 ^ 63 := Nat.pow_le_pow_right (by omega) (by omega)
  omega

theorem push_bit (v : Nat) (x : Bool) (h : 2 * v + 1 < 18446744073709551616) : bitw .or .u64 (shl .u64 v 1) (IntKind.u64.wrap (x.toNat : Int)) = ((2 * v + x.toNat : Nat) : Int) := by
  have hx : x.toNat ≤ 1 := by cases x <;> simp
  have h1 : shl .u64 (v : Int) 1 = ((v * 2 : Nat) : Int) := by
    have := shl_nat .u64 v 1 (by simp [IntKind.bits])
    rw [show ((1 : Nat) : Int) = 1 from rfl] at this
    rw [this]
    exact wrap_nat_u64 (by omega)
  rw [h1, wrap_nat_u64 (by omega), bitw_or (by simp only [IntKind.bits]; omega) (by simp only [IntKind.bits]; omega)]
  have h2 : v * 2 ||| x.toNat = 2 * v + x.toNat := by
    have := Nat.two_pow_add_eq_or_of_lt (i := 1) (b := x.toNat) (by omega) v
    rw [Nat.mul_comm v 2]
    simpa using this.symm
  rw [h2]
  exact wrap_nat_u64 (by omega)

set_option maxHeartbeats 1000000 in
theorem get_c {w : World} {F : Nat → Prop} {b : Nat} {l : List Nat} {p : Nat} {e : Int} (h : Rr w F b l p e) (n : Int) :
    Calls Try.prog 32 [.pointer (some ⟨b, 0, none⟩), .int .i64 n].toArray w (Ret fun r w' => r = .int .u64 (rGet l p e n).1 ∧ RrAfter w F b l (rGet l p e n).2.1 (rGet l p e n).2.2 w') := by
  refine F_sound c32 (by simp [fc32]) ?_
  obtain ⟨s, el, hb, hs, hF⟩ := h.is
  have hsm := h.small
  have hle := h.le
  have hc2 := cell_blk hb 2
  simp [fc32, s32, hc2]
  by_cases he : e = 0
  · subst he
    refine ite_r (t := false) (by simp) (fun h => by cases h) (fun _ => ?_)
    simp
    by_cases hn : n < 0 ∨ 64 < n
    · refine ite_r (t := true) (by simpa using hn) (fun _ => ?_) (fun h => by cases h)
      simp
      refine st_r (b := b) (o := 2) (by simp) (by simp; rfl) hb (by simp) (by simp) ?_
      intro w' hb' hm' _
      refine ⟨by simp, ?_⟩
      have hr : rGet l p 0 n = (0, p, 1) := by simp [rGet, hn]
      simp [hr]
      exact ⟨h.setErr hb' hs hF hm', hm'⟩
    · refine ite_r (t := false) (by simp; omega) (fun h => by cases h) (fun _ => ?_)
      simp
      refine call_r _ (left_c h) (by simp) ?_
      rintro r w1 ⟨rfl, hm1⟩
      have h1 := h.mod hm1 (fun _ _ h => h)
      refine ⟨by simp, ?_⟩
      simp
      obtain ⟨s1, el1, hb1, hs1, hF1⟩ := h1.is
      by_cases hsh : 8 * l.length < p + n.toNat
      · refine ite_r (t := true) (by simp; omega) (fun _ => ?_) (fun h => by cases h)
        simp
        refine st_r (b := b) (o := 2) (by simp) (by simp; rfl) hb1 (by simp) (by simp) ?_
        intro w' hb' hm' _
        refine ⟨by simp, ?_⟩
        have hr : rGet l p 0 n = (0, p, 3) := by simp [rGet, hn, hsh]
        simp [hr]
        exact ⟨h1.setErr hb' hs1 hF1 hm', (hm1.mono (fun _ _ h => h.elim)).tr hm'⟩
      · refine ite_r (t := false) (by simp; omega) (fun h => by cases h) (fun _ => ?_)
        obtain ⟨N, rfl⟩ : ∃ N : Nat, n = N := ⟨n.toNat, by omega⟩
        have hN : N ≤ 64 := by omega
        simp only [Int.toNat_natCast] at hsh
        have hr : rGet l p 0 N = (ofB (rbits l p N), p + N, 0) := by simp [rGet, hsh]; omega
        rw [hr]
        simp
        refine loop_r (fun m env' w' => ∃ i : Nat, i ≤ N ∧ m = N - i ∧ env' 0 = .pointer (some ⟨b, 0, none⟩) ∧ env' 5 = .int .u64 (ofB (rbits l p i)) ∧ env' 27 = .int .i64 N ∧ env' 28 = .int .i64 i ∧ RrAfter w F b l (p + i) 0 w') N ?_ ?_
        · exact ⟨0, by omega, by omega, by simp, by simp [rbits, ofB], by simp, by simp, h1, hm1.mono (fun _ _ h => h.elim)⟩
        · rintro m env' w' ⟨i, hi, hm, e0, e5, e27, e28, hR, hM⟩
          simp [e27, e28]
          by_cases hlt : i < N
          · refine ite_r (t := true) (by simp; omega) (fun _ => ?_) (fun h => by cases h)
            simp
            rw [wp_blk]
            obtain ⟨s2, el2, hb2, hs2, hF2⟩ := hR.is
            have hd1 := cell_blk hb2 1
            simp [e0, e5, hd1]
            refine call_r _ (look_c hR (p + i) (by omega)) (by simp [e0]) ?_
            rintro r w2 ⟨rfl, rfl⟩
            refine ⟨by simp, ?_⟩
            have hw2 : IntKind.i64.wrap ((p : Int) + (i : Int) + 1) = (p : Int) + (i : Int) + 1 := wrap_i64 (by omega) (by omega)
            have hpb := push_bit (ofB (rbits l p i)) (rdb l (p + i)) (ofB_lt64 _ (by rw [rbits_length]; omega))
            simp [e0, e5, hd1]
            refine st_r (b := b) (o := 1) (v := .int .i64 ((p + (i + 1) : Nat) : Int)) (by simp [e0]) (by simp [hw2]; omega) hb2 (by simp) (by simp) ?_
            intro w3 hb3 hm3 _
            refine ⟨by simp, ?_⟩
            have hw4 : IntKind.i64.wrap ((i : Int) + 1) = (i : Int) + 1 := wrap_i64 (by omega) (by omega)
            simp [e28, hw4]
            refine ⟨N - (i + 1), by omega, i + 1, by omega, rfl, by simp [e0], ?_, by simp [e27], by simp, hR.setAt (by omega) hb3 hs2 hF2 hm3, hM.tr hm3⟩
            rw [hpb, rbits_succ, ofB_snoc]
          · obtain rfl : i = N := by omega
            refine ite_r (t := false) (by simp) (fun h => by cases h) (fun _ => ?_)
            simp [e5]
            exact ⟨hR, hM⟩
  · refine ite_r (t := true) (by simpa using he) (fun _ => ?_) (fun h => by cases h)
    have hr : rGet l p e n = (0, p, e) := by simp [rGet, he]
    simp [hr]
    exact ⟨h, Mod.refl _ _⟩

/-- Signed's number: what Get's is in two's complement of n bits. -/
def sgnI (v : Nat) (n : Int) : Int := shr .i64 (IntKind.i64.wrap (shl .u64 v (IntKind.i64.wrap (64 - n)))) (IntKind.i64.wrap (64 - n))

def rSigned (l : List Nat) (p : Nat) (e : Int) (n : Int) : Int × Nat × Int :=
  let g := rGet l p e n
  (if g.2.2 ≠ 0 ∨ n = 0 then 0 else sgnI g.1 n, g.2.1, g.2.2)

theorem rGet_n {l : List Nat} {p : Nat} {e n : Int} (h : ¬ ((rGet l p e n).2.2 ≠ 0 ∨ n = 0)) : 1 ≤ n ∧ n ≤ 64 := by
  unfold rGet at h
  split at h
  · simp at h; omega
  · split at h
    · simp at h
    · omega

theorem signed_c {w : World} {F : Nat → Prop} {b : Nat} {l : List Nat} {p : Nat} {e : Int} (h : Rr w F b l p e) (n : Int) (hn0 : -9223372036854775808 ≤ n) (hn1 : n ≤ 9223372036854775807) :
    Calls Try.prog 75 [.pointer (some ⟨b, 0, none⟩), .int .i64 n].toArray w (Ret fun r w' => r = .int .i64 (rSigned l p e n).1 ∧ RrAfter w F b l (rSigned l p e n).2.1 (rSigned l p e n).2.2 w') := by
  refine F_sound c75 (by simp [fc75]) ?_
  simp [fc75, s75]
  refine call_r _ (get_c h n) (by simp) ?_
  rintro r w1 ⟨rfl, hR, hM⟩
  refine ⟨by simp, ?_⟩
  obtain ⟨s, el, hb, hs, hF⟩ := hR.is
  have hc2 := cell_blk hb 2
  simp [hc2]
  by_cases hz : (rGet l p e n).2.2 ≠ 0 ∨ n = 0
  · refine ite_r (t := true) (by simpa using hz) (fun _ => ?_) (fun h => by cases h)
    have hr : rSigned l p e n = (0, (rGet l p e n).2.1, (rGet l p e n).2.2) := by simp only [rSigned, if_pos hz]
    simp [hr]
    exact ⟨hR, hM⟩
  · have hn := rGet_n hz
    refine ite_r (t := false) (by rw [not_or] at hz; simpa using hz) (fun h => by cases h) (fun _ => ?_)
    have hr : rSigned l p e n = (sgnI (rGet l p e n).1 n, (rGet l p e n).2.1, (rGet l p e n).2.2) := by simp only [rSigned, if_neg hz]
    have hw : IntKind.i64.wrap (64 - n) = 64 - n := wrap_i64 (by omega) (by omega)
    simp [hr, hw, sgnI]
    exact ⟨by omega, hR, hM⟩

theorem unF_end {l : List Nat} {p m z f : Nat} (h : p + z = 8 * l.length) : unF l p m (f + 1) z = (0, p, 3) := by simp [unF, h]
theorem unF_one {l : List Nat} {p m z f : Nat} (h : p + z ≠ 8 * l.length) (h1 : rdb l (p + z) = true) : unF l p m (f + 1) z = (z, p + z + 1, 0) := by simp [unF, h, h1]
theorem unF_form {l : List Nat} {p m z f : Nat} (h : p + z ≠ 8 * l.length) (h1 : rdb l (p + z) = false) (h2 : z = m) : unF l p m (f + 1) z = (0, p, 2) := by subst h2; simp [unF, h, h1]
theorem unF_go {l : List Nat} {p m z f : Nat} (h : p + z ≠ 8 * l.length) (h1 : rdb l (p + z) = false) (h2 : z ≠ m) : unF l p m (f + 1) z = unF l p m f (z + 1) := by simp [unF, h, h1, h2]

set_option maxHeartbeats 1000000 in
theorem runary_c {w : World} {F : Nat → Prop} {b : Nat} {l : List Nat} {p : Nat} {e : Int} (h : Rr w F b l p e) (most : Int) :
    Calls Try.prog 90 [.pointer (some ⟨b, 0, none⟩), .int .i64 most].toArray w (Ret fun r w' => r = .int .i64 (rUnary l p e most).1 ∧ RrAfter w F b l (rUnary l p e most).2.1 (rUnary l p e most).2.2 w') := by
  refine F_sound c90 (by simp [fc90]) ?_
  obtain ⟨s, el, hb, hs, hF⟩ := h.is
  have hsm := h.small
  have hle := h.le
  have hc1 := cell_blk hb 1
  have hc2 := cell_blk hb 2
  simp [fc90, s90, hc2]
  by_cases he : e = 0
  · subst he
    refine ite_r (t := false) (by simp) (fun h => by cases h) (fun _ => ?_)
    have hmx : (if 0 > most then 0 else most) = (most.toNat : Int) := by split <;> omega
    simp [hc1]
    rw [show (if most < 0 then 0 else most) = (most.toNat : Int) by split <;> omega]
    have hr0 : rUnary l p 0 most = unF l p most.toNat (8 * l.length - p + 1) 0 := by simp [rUnary]
    rw [hr0]
    refine loop_r (fun m env' w' => ∃ z : Nat, p + z ≤ 8 * l.length ∧ m = 8 * l.length - p + 1 - z ∧ env' 0 = .pointer (some ⟨b, 0, none⟩) ∧ env' 1 = .int .i64 most.toNat ∧ env' 5 = .int .i64 z ∧ env' 6 = .int .i64 ((p + z : Nat) : Int) ∧
      unF l p most.toNat (8 * l.length - p + 1) 0 = unF l p most.toNat (8 * l.length - p + 1 - z) z ∧ RrAfter w F b l p 0 w') (8 * l.length - p + 1) ?_ ?_
    · exact ⟨0, by omega, by omega, by simp, by simp, by simp, by simp, by simp, h.mod (Mod.refl none' _).drew (fun _ _ h => h), (Mod.refl _ _).drew⟩
    · rintro m env' w' ⟨z, hz, hm, e0, e1, e5, e6, hun, hR, hM⟩
      obtain ⟨f, hf⟩ : ∃ f, 8 * l.length - p + 1 - z = f + 1 := ⟨8 * l.length - p - z, by omega⟩
      rw [hf] at hun
      obtain ⟨s2, el2, hb2, hs2, hF2⟩ := hR.is
      obtain ⟨cap, hv⟩ := (Rd.of_owns hs2).is
      have hS : isS s2 := by rw [hv]; trivial
      have hL : slL s2 = l.length := by rw [hv]; rfl
      have hd0 := cell_blk hb2 0
      have hw1 : IntKind.i64.wrap (8 * (l.length : Int)) = 8 * (l.length : Int) := wrap_i64 (by omega) (by omega)
      rw [wp_blk]
      simp [e0, hd0, hS, hL, e6, hw1]
      by_cases hend : p + z = 8 * l.length
      · rw [hun, unF_end hend]
        refine ite_r (t := true) (by simp; omega) (fun _ => ?_) (fun h => by cases h)
        simp [e0]
        refine st_r (b := b) (o := 2) (by simp [e0]) (by simp; rfl) hb2 (by simp) (by simp) ?_
        intro w3 hb3 hm3 _
        refine ⟨by simp, ?_⟩
        simp
        exact ⟨hR.setErr hb3 hs2 hF2 hm3, hM.tr hm3⟩
      · refine ite_r (t := false) (by simp; omega) (fun h => by cases h) (fun _ => ?_)
        simp
        refine call_r _ (look_c hR (p + z) (by omega)) (by simp [e0, e6]) ?_
        rintro r w2 ⟨rfl, rfl⟩
        refine ⟨by simp, ?_⟩
        have hw2 : IntKind.i64.wrap ((p : Int) + (z : Int) + 1) = (p : Int) + (z : Int) + 1 := wrap_i64 (by omega) (by omega)
        simp
        cases hbit : rdb l (p + z) with
        | true =>
          rw [hun, unF_one hend hbit]
          refine ite_r (t := true) (by simp) (fun _ => ?_) (fun h => by cases h)
          simp [e0, e6]
          refine st_r (b := b) (o := 1) (v := .int .i64 ((p + z + 1 : Nat) : Int)) (by simp [e0]) (by simp [e6, hw2]) hb2 (by simp) (by simp) ?_
          intro w3 hb3 hm3 _
          refine ⟨by simp, ?_⟩
          simp [e5]
          exact ⟨hR.setAt (by omega) hb3 hs2 hF2 hm3, hM.tr hm3⟩
        | false =>
          refine ite_r (t := false) (by simp) (fun h => by cases h) (fun _ => ?_)
          simp [e5, e1]
          by_cases hzm : z = most.toNat
          · rw [hun, unF_form hend hbit hzm]
            refine ite_r (t := true) (by simp; omega) (fun _ => ?_) (fun h => by cases h)
            simp [e0]
            refine st_r (b := b) (o := 2) (by simp [e0]) (by simp; rfl) hb2 (by simp) (by simp) ?_
            intro w3 hb3 hm3 _
            refine ⟨by simp, ?_⟩
            simp
            exact ⟨hR.setErr hb3 hs2 hF2 hm3, hM.tr hm3⟩
          · refine ite_r (t := false) (by simp; omega) (fun h => by cases h) (fun _ => ?_)
            have hw3 : IntKind.i64.wrap ((z : Int) + 1) = (z : Int) + 1 := wrap_i64 (by omega) (by omega)
            simp [e5, e6, hw2, hw3]
            refine ⟨m - 1, by omega, z + 1, by omega, by omega, by simp [e0], by simp [e1], by simp, by omega, ?_, hR, hM⟩
            rw [hun, unF_go hend hbit hzm]
            congr 1; omega
  · refine ite_r (t := true) (by simpa using he) (fun _ => ?_) (fun h => by cases h)
    have hr : rUnary l p e most = (0, p, e) := by simp [rUnary, he]
    simp [hr]
    exact ⟨h, Mod.refl _ _⟩

theorem new_c {w : World} {F : Nat → Prop} {v : Value} {l : List Nat} (h : Rd F w v l.length (bytesV l)) (hf : ∀ x ∈ l, x < 256) (hl : l.length ≤ 17592186044416) :
    Calls Try.prog 30 [v].toArray w (Ret fun r w' => ∃ (b : Nat) (G : Nat → Prop), r = .pointer (some ⟨b, 0, none⟩) ∧ Rr w' G b l 0 0 ∧ Mod none' w w' ∧ ∀ k, G k → w.heap.size ≤ k) := by
  refine F_sound c30 (by simp [fc30]) ?_
  simp [fc30, s30]
  refine app_r slT8 (World.ownsRow_nil w w.heap.size 5 1) h (by simp [bytesV]) (bytesV_one _) (Nat.le_refl _) (by omega) (by unfold maxLen; omega) rfl (by simp) ?_
  intro v' w1 ho hm1 _ _
  refine ⟨by simp, ?_⟩
  have h1 : v'.cells = #[v'] := by rcases ho.2 with ⟨rfl, _⟩ | ⟨g, cap, cur, rfl, _⟩ <;> rfl
  simp [h1]
  refine box_r (.agg #[v', .int .i64 0, .int .i64 0]) (by simp [h1, putAt]) ?_
  intro b w2 hb hb2 hm2 hsz
  refine ⟨by simp, ?_⟩
  have hm12 : Mod none' w w2 := (hm1.mono fun k _ h => by simp [Value.ownBlock] at h).tr hm2
  have hob : ∀ k, v'.ownBlock = some k → w.heap.size ≤ k ∧ k < w1.heap.size := fun k hk => ho.lt k hk
  simp only [wp_set, wp_ret', postF_ret, oks_cons, oks_nil, E.ok, evs_cons, evs_nil, E.ev, upd_apply, updo_some, if_true, pack_one, true_and]
  refine ⟨b, rfl, fun k => k = b ∨ v'.ownBlock = some k, ⟨?_, .inl rfl, hf, by omega, hl, v', _, hb2, ?_, ?_⟩, hm12, ?_⟩
  · rintro k (rfl | hk)
    · omega
    · have := hob k hk; omega
  · have := hm2.owns ho (fun _ _ h => h)
    refine ⟨by simpa using this.1, ?_⟩
    rcases this.2 with ⟨h1, h2⟩ | ⟨g, cap, cur, h1, h2, h3⟩
    · exact .inl ⟨h1, by simpa using h2⟩
    · exact .inr ⟨g, cap, cur, by simpa using h1, by omega, by simpa using h3⟩
  · intro k hk
    have := hob k hk
    exact ⟨.inr hk, by omega⟩
  · rintro k (rfl | hk)
    · have := hm1.size; omega
    · exact (hob k hk).1

end Go.Proofs.Ytajkofndbeohpaa.VG
