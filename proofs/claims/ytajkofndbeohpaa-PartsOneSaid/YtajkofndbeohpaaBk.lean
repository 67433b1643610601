/-
  Bits: the document's reader (kinoraref2): what each of its calls comes to.
-/
import Derived.Test.YtajkofndbeohpaaBj
namespace Go.Proofs.Ytajkofndbeohpaa.VG
open Go
set_option linter.unusedSimpArgs false
set_option linter.unusedVariables false

/-- The document's reader at block b, over the slice v of the bytes l: p bits were read; its error is e. -/
structure Yr (w : World) (G : Nat → Prop) (b : Nat) (v : Value) (l : List Nat) (p : Nat) (e : Int) : Prop where
  lt : b < w.heap.size
  off : ¬ G b
  fits : ∀ x ∈ l, x < 256
  le : p ≤ 8 * l.length
  small : l.length ≤ 17592186044416
  rd : Rd G w v l.length (bytesV l)
  is : ∃ el, w.heap[b]? = some (.cells #[v, .int .i64 p, .int .i64 e] el (0, 0))

theorem Yr.mod {w w' : World} {G S : Nat → Prop} {b : Nat} {v : Value} {l : List Nat} {p : Nat} {e : Int} (h : Yr w G b v l p e) (m : Mod S w w') (hd : ∀ k, G k → ¬ S k) (hb : ¬ S b) : Yr w' G b v l p e := by
  obtain ⟨el, h1⟩ := h.is
  exact ⟨Nat.lt_of_lt_of_le h.lt m.size, h.off, h.fits, h.le, h.small, h.rd.mod m hd, el, m.heap h1 hb⟩
def YrAfter (w : World) (G : Nat → Prop) (b : Nat) (v : Value) (l : List Nat) (p : Nat) (e : Int) (w' : World) : Prop := Yr w' G b v l p e ∧ Mod (fun k => k = b) w w'

theorem Yr.setErr {w w' : World} {G : Nat → Prop} {b : Nat} {v : Value} {l : List Nat} {p : Nat} {e e' : Int} {el : TypeId} (h : Yr w G b v l p e) (hb : w'.heap[b]? = some (.cells (#[v, .int .i64 p, .int .i64 e].setIfInBounds 2 (.int .i64 e')) el (0, 0)))
    (hm : Mod (fun k => k = b) w w') : Yr w' G b v l p e' :=
  ⟨Nat.lt_of_lt_of_le h.lt hm.size, h.off, h.fits, h.le, h.small, h.rd.mod hm (fun k hk e => h.off (e ▸ hk)), el, by simpa using hb⟩
theorem Yr.setAt {w w' : World} {G : Nat → Prop} {b : Nat} {v : Value} {l : List Nat} {p p' : Nat} {e : Int} {el : TypeId} (h : Yr w G b v l p e) (hp : p' ≤ 8 * l.length) (hb : w'.heap[b]? = some (.cells (#[v, .int .i64 p, .int .i64 e].setIfInBounds 1 (.int .i64 p')) el (0, 0)))
    (hm : Mod (fun k => k = b) w w') : Yr w' G b v l p' e :=
  ⟨Nat.lt_of_lt_of_le h.lt hm.size, h.off, h.fits, hp, h.small, h.rd.mod hm (fun k hk e => h.off (e ▸ hk)), el, by simpa using hb⟩

theorem Yr.sl {w : World} {G : Nat → Prop} {b : Nat} {v : Value} {l : List Nat} {p : Nat} {e : Int} (h : Yr w G b v l p e) : w.cell? ⟨b, 0, none⟩ = some v ∧ w.cell? ⟨b, 1, none⟩ = some (.int .i64 p) ∧ w.cell? ⟨b, 2, none⟩ = some (.int .i64 e) ∧ isS v ∧ slL v = l.length := by
  obtain ⟨el, hb⟩ := h.is
  obtain ⟨cap, hv⟩ := h.rd.is
  exact ⟨by simpa using cell_blk hb 0, by simpa using cell_blk hb 1, by simpa using cell_blk hb 2, by rw [hv]; trivial, by rw [hv]; rfl⟩

theorem yleft_c {w : World} {G : Nat → Prop} {b : Nat} {v : Value} {l : List Nat} {p : Nat} {e : Int} (h : Yr w G b v l p e) :
    Calls Try.prog 57 [.pointer (some ⟨b, 0, none⟩)].toArray w (Ret fun r w' => r = .int .i64 (8 * (l.length : Int) - p) ∧ Mod none' w w') := by
  refine F_sound c57 (by simp [fc57]) ?_
  obtain ⟨c0, c1, c2, hS, hL⟩ := h.sl
  have hsm := h.small
  have hle := h.le
  have hw1 : IntKind.i64.wrap (8 * (l.length : Int)) = 8 * (l.length : Int) := wrap_i64 (by omega) (by omega)
  have hw2 : IntKind.i64.wrap (8 * (l.length : Int) - (p : Int)) = 8 * (l.length : Int) - (p : Int) := wrap_i64 (by omega) (by omega)
  simp [fc57, s57, c0, c1, hS, hL, hw1, hw2]
  exact (Mod.refl _ _).drew

theorem ybit_c {w : World} {G : Nat → Prop} {b : Nat} {v : Value} {l : List Nat} {p : Nat} {e : Int} (h : Yr w G b v l p e) (i : Nat) (hi : i < 8 * l.length) :
    Calls Try.prog 58 [.pointer (some ⟨b, 0, none⟩), .int .i64 i].toArray w (Ret fun r w' => r = .int .u64 (rdb l i).toNat ∧ w' = w) := by
  refine F_sound c58 (by simp [fc58]) ?_
  obtain ⟨c0, c1, c2, hS, hL⟩ := h.sl
  have hsm := h.small
  have hcell := byte_at h.rd (i / 8) (by omega)
  have hp := (h.rd.ptr (by simp [bytesV]; omega)).1
  have hw1 : (i : Int).tdiv 8 = (i : Int) / 8 := tdiv_nn (by omega)
  have hw2 : IntKind.i64.wrap ((i : Int) / 8) = (i : Int) / 8 := wrap_i64 (by omega) (by omega)
  have hn1 : ((i : Int) / 8).toNat = i / 8 := by omega
  have hw3 : (i : Int).tmod 8 = (i : Int) % 8 := tmod_nn (by omega)
  have hw4 : IntKind.i64.wrap (7 - (i : Int) % 8) = 7 - (i : Int) % 8 := wrap_i64 (by omega) (by omega)
  have hw5 : IntKind.u64.wrap (7 - (i : Int) % 8) = ((7 - i % 8 : Nat) : Int) := by rw [wrap_u64 (by omega) (by omega)]; omega
  have hby : l.getD (i / 8) 0 < 256 := by
    rw [List.getD_eq_getElem?_getD, List.getElem?_eq_getElem (by omega), Option.getD_some]
    exact h.fits _ (List.getElem_mem _)
  have hfin := shr_and1 (l.getD (i / 8) 0) (7 - i % 8) hby (by omega)
  have hfin2 : IntKind.u64.wrap (((l.getD (i / 8) 0).testBit (7 - i % 8)).toNat : Int) = (((l.getD (i / 8) 0).testBit (7 - i % 8)).toNat : Int) := wrap_nat_u64 (by cases (l.getD (i / 8) 0).testBit (7 - i % 8) <;> simp)
  rw [← hfin] at hfin2
  simp [fc58, s58, c0, hS, hp, hL, hw1, hw2, hn1, hw3, hw4, hw5, hcell]
  refine ⟨⟨by omega, by omega⟩, ?_⟩
  simp only [List.getD_eq_getElem?_getD] at hfin hfin2
  rw [hfin2, hfin]
  simp [rdb]

theorem push_bit' (v : Nat) (x : Bool) (h : 2 * v + 1 < 18446744073709551616) : bitw .or .u64 (shl .u64 v 1) (x.toNat : Int) = ((2 * v + x.toNat : Nat) : Int) := by
  have := push_bit v x h
  rwa [wrap_nat_u64 (by cases x <;> simp)] at this

set_option maxHeartbeats 1000000 in
theorem yget_c {w : World} {G : Nat → Prop} {b : Nat} {v : Value} {l : List Nat} {p : Nat} {e : Int} (h : Yr w G b v l p e) (n : Int) :
    Calls Try.prog 33 [.pointer (some ⟨b, 0, none⟩), .int .i64 n].toArray w (Ret fun r w' => r = .int .u64 (rGet l p e n).1 ∧ YrAfter w G b v l (rGet l p e n).2.1 (rGet l p e n).2.2 w') := by
  refine F_sound c33 (by simp [fc33]) ?_
  obtain ⟨el, hb⟩ := h.is
  obtain ⟨c0, c1, c2, hS, hL⟩ := h.sl
  have hsm := h.small
  have hle := h.le
  simp [fc33, s33, c2]
  by_cases he : e = 0
  · subst he
    refine ite_r (t := false) (by simp) (fun h => by cases h) (fun _ => ?_)
    simp
    by_cases hn : n < 0 ∨ 64 < n
    · refine ite_r (t := true) (by simpa using hn) (fun _ => ?_) (fun h => by cases h)
      simp
      refine st_r (b := b) (o := 2) (by simp) (by simp; rfl) hb (by simp) (by simp) ?_
      intro w' hb' hm' _
      refine ⟨by simp, ?_⟩
      have hr : rGet l p 0 n = (0, p, 1) := by simp [rGet, hn]
      simp [hr]
      exact ⟨h.setErr hb' hm', hm'⟩
    · refine ite_r (t := false) (by simp; omega) (fun h => by cases h) (fun _ => ?_)
      simp
      refine call_r _ (yleft_c h) (by simp) ?_
      rintro r w1 ⟨rfl, hm1⟩
      have h1 := h.mod hm1 (fun _ _ h => h) (fun h => h)
      obtain ⟨el1, hb1⟩ := h1.is
      obtain ⟨d0, d1, d2, _, _⟩ := h1.sl
      refine ⟨by simp, ?_⟩
      simp
      by_cases hsh : 8 * l.length < p + n.toNat
      · refine ite_r (t := true) (by simp; omega) (fun _ => ?_) (fun h => by cases h)
        simp
        refine st_r (b := b) (o := 2) (by simp) (by simp; rfl) hb1 (by simp) (by simp) ?_
        intro w' hb' hm' _
        refine ⟨by simp, ?_⟩
        have hr : rGet l p 0 n = (0, p, 3) := by simp [rGet, hn, hsh]
        simp [hr]
        exact ⟨h1.setErr hb' hm', (hm1.mono (fun _ _ h => h.elim)).tr hm'⟩
      · refine ite_r (t := false) (by simp; omega) (fun h => by cases h) (fun _ => ?_)
        obtain ⟨N, rfl⟩ : ∃ N : Nat, n = N := ⟨n.toNat, by omega⟩
        have hN : N ≤ 64 := by omega
        simp only [Int.toNat_natCast] at hsh
        have hr : rGet l p 0 N = (ofB (rbits l p N), p + N, 0) := by simp [rGet, hsh]; omega
        rw [hr]
        simp
        refine loop_w (fun m env' w' => ∃ i : Nat, i ≤ N ∧ m = N - i ∧ env' 0 = .pointer (some ⟨b, 0, none⟩) ∧ env' 1 = .int .i64 N ∧ env' 5 = .int .u64 (ofB (rbits l p i)) ∧ env' 6 = .int .i64 i ∧ w' = w1) N
          (fun env' w' => env' 0 = .pointer (some ⟨b, 0, none⟩) ∧ env' 1 = .int .i64 N ∧ env' 5 = .int .u64 (ofB (rbits l p N)) ∧ w' = w1) ?_ ?_ ?_
        · exact ⟨0, by omega, by omega, by simp, by simp, by simp [rbits, ofB], by simp, rfl⟩
        · rintro m env' _ ⟨i, hi, hm, e0, e1, e5, e6, rfl⟩
          simp [e1, e6]
          by_cases hlt : i < N
          · refine ite_r (t := true) (by simp; omega) (fun _ => ?_) (fun h => by cases h)
            simp
            rw [wp_blk]
            have hw2 : IntKind.i64.wrap ((p : Int) + (i : Int)) = (p : Int) + (i : Int) := wrap_i64 (by omega) (by omega)
            simp [e0, e5, e6, d1]
            refine call_r _ (ybit_c h1 (p + i) (by omega)) (by simp [e0, e6, hw2]) ?_
            rintro r w2 ⟨rfl, hww⟩
            subst hww
            refine ⟨by simp, ?_⟩
            have hpb := push_bit' (ofB (rbits l p i)) (rdb l (p + i)) (ofB_lt64 _ (by rw [rbits_length]; omega))
            have hw4 : IntKind.i64.wrap ((i : Int) + 1) = (i : Int) + 1 := wrap_i64 (by omega) (by omega)
            simp [e5, e6, hw4]
            refine ⟨N - (i + 1), by omega, i + 1, by omega, rfl, by simp [e0], by simp [e1], ?_, by simp⟩
            rw [hpb, rbits_succ, ofB_snoc]
          · obtain rfl : i = N := by omega
            refine ite_r (t := false) (by simp) (fun h => by cases h) (fun _ => ?_)
            simp
            exact ⟨e0, e1, e5⟩
        · rintro env' _ ⟨e0, e1, e5, rfl⟩
          have hw2 : IntKind.i64.wrap ((p : Int) + (N : Int)) = (p : Int) + (N : Int) := wrap_i64 (by omega) (by omega)
          simp [e0, e1, d1]
          refine st_r (b := b) (o := 1) (v := .int .i64 ((p + N : Nat) : Int)) (by simp [e0]) (by simp [e1, hw2]) hb1 (by simp) (by simp) ?_
          intro w3 hb3 hm3 _
          refine ⟨by simp, ?_⟩
          simp [e5]
          exact ⟨h1.setAt (by omega) hb3 hm3, (hm1.mono (fun _ _ h => h.elim)).tr hm3⟩
  · refine ite_r (t := true) (by simpa using he) (fun _ => ?_) (fun h => by cases h)
    have hr : rGet l p e n = (0, p, e) := by simp [rGet, he]
    simp [hr]
    exact ⟨h, Mod.refl _ _⟩

theorem ysigned_c {w : World} {G : Nat → Prop} {b : Nat} {v : Value} {l : List Nat} {p : Nat} {e : Int} (h : Yr w G b v l p e) (n : Int) (hn0 : -9223372036854775808 ≤ n) (hn1 : n ≤ 9223372036854775807) :
    Calls Try.prog 89 [.pointer (some ⟨b, 0, none⟩), .int .i64 n].toArray w (Ret fun r w' => r = .int .i64 (rSigned l p e n).1 ∧ YrAfter w G b v l (rSigned l p e n).2.1 (rSigned l p e n).2.2 w') := by
  refine F_sound c89 (by simp [fc89]) ?_
  simp [fc89, s89]
  refine call_r _ (yget_c h n) (by simp) ?_
  rintro r w1 ⟨rfl, hR, hM⟩
  refine ⟨by simp, ?_⟩
  obtain ⟨c0, c1, c2, hS, hL⟩ := hR.sl
  simp [c2]
  by_cases hz : (rGet l p e n).2.2 ≠ 0 ∨ n = 0
  · refine ite_r (t := true) (by simpa using hz) (fun _ => ?_) (fun h => by cases h)
    have hr : rSigned l p e n = (0, (rGet l p e n).2.1, (rGet l p e n).2.2) := by simp only [rSigned, if_pos hz]
    simp [hr]
    exact ⟨hR, hM⟩
  · have hn := rGet_n hz
    refine ite_r (t := false) (by rw [not_or] at hz; simpa using hz) (fun h => by cases h) (fun _ => ?_)
    have hr : rSigned l p e n = (sgnI (rGet l p e n).1 n, (rGet l p e n).2.1, (rGet l p e n).2.2) := by simp only [rSigned, if_neg hz]
    have hw : IntKind.i64.wrap (64 - n) = 64 - n := wrap_i64 (by omega) (by omega)
    have hw' : IntKind.u64.wrap (64 - n) = 64 - n := wrap_u64 (by omega) (by omega)
    simp [hr, hw, hw', sgnI]
    exact ⟨by omega, hR, hM⟩

set_option maxHeartbeats 1000000 in
theorem yunary_c {w : World} {G : Nat → Prop} {b : Nat} {v : Value} {l : List Nat} {p : Nat} {e : Int} (h : Yr w G b v l p e) (most : Int) :
    Calls Try.prog 87 [.pointer (some ⟨b, 0, none⟩), .int .i64 most].toArray w (Ret fun r w' => r = .int .i64 (rUnary l p e most).1 ∧ YrAfter w G b v l (rUnary l p e most).2.1 (rUnary l p e most).2.2 w') := by
  refine F_sound c87 (by simp [fc87]) ?_
  obtain ⟨c0, c1, c2, hS, hL⟩ := h.sl
  have hsm := h.small
  have hle := h.le
  simp [fc87, s87, c2]
  by_cases he : e = 0
  · subst he
    refine ite_r (t := false) (by simp) (fun h => by cases h) (fun _ => ?_)
    simp
    rw [show (if most < 0 then 0 else most) = (most.toNat : Int) by split <;> omega]
    have hr0 : rUnary l p 0 most = unF l p most.toNat (8 * l.length - p + 1) 0 := by simp [rUnary]
    rw [hr0]
    refine loop_r (fun m env' w' => ∃ z : Nat, p + z ≤ 8 * l.length ∧ z ≤ most.toNat ∧ m = 8 * l.length - p + 1 - z ∧ env' 0 = .pointer (some ⟨b, 0, none⟩) ∧ env' 1 = .int .i64 most.toNat ∧ env' 5 = .int .i64 z ∧
      unF l p most.toNat (8 * l.length - p + 1) 0 = unF l p most.toNat (8 * l.length - p + 1 - z) z ∧ YrAfter w G b v l p 0 w') (8 * l.length - p + 1) ?_ ?_
    · exact ⟨0, by omega, by omega, by omega, by simp, by simp, by simp, by simp, h, Mod.refl _ _⟩
    · rintro m env' w' ⟨z, hz, hzl, hm, e0, e1, e5, hun, hR0, hM0⟩
      obtain ⟨f, hf⟩ : ∃ f, 8 * l.length - p + 1 - z = f + 1 := ⟨8 * l.length - p - z, by omega⟩
      rw [hf] at hun
      refine call_r _ (yleft_c hR0) (by simp [e0]) ?_
      rintro r w1 ⟨rfl, hm1⟩
      have hR := hR0.mod hm1 (fun _ _ h => h) (fun h => h)
      have hM := hM0.tr (hm1.mono (fun _ _ h => h.elim))
      obtain ⟨el2, hb2⟩ := hR.is
      obtain ⟨d0, d1, d2, _, _⟩ := hR.sl
      refine ⟨by simp, ?_⟩
      simp [e5]
      by_cases hend : p + z = 8 * l.length
      · rw [hun, unF_end hend]
        refine ite_r (t := false) (by simp; omega) (fun h => by cases h) (fun _ => ?_)
        simp [e0]
        refine st_r (b := b) (o := 2) (by simp [e0]) (by simp; rfl) hb2 (by simp) (by simp) ?_
        intro w3 hb3 hm3 _
        refine ⟨by simp, ?_⟩
        simp
        exact ⟨hR.setErr hb3 hm3, hM.tr hm3⟩
      · refine ite_r (t := true) (by simp; omega) (fun _ => ?_) (fun h => by cases h)
        simp
        rw [wp_blk]
        have hw1 : IntKind.i64.wrap ((p : Int) + (z : Int)) = (p : Int) + (z : Int) := wrap_i64 (by omega) (by omega)
        simp [e0, e5, d1]
        refine call_r _ (ybit_c hR (p + z) (by omega)) (by simp [e0, e5, hw1]) ?_
        rintro r w2 ⟨rfl, rfl⟩
        refine ⟨by simp, ?_⟩
        have hw2 : IntKind.i64.wrap ((p : Int) + (z : Int) + 1) = (p : Int) + (z : Int) + 1 := wrap_i64 (by omega) (by omega)
        simp
        cases hbit : rdb l (p + z) with
        | true =>
          rw [hun, unF_one hend hbit]
          refine ite_r (t := true) (by simp) (fun _ => ?_) (fun h => by cases h)
          simp [e0, e5, d1, hw1]
          refine st_r (b := b) (o := 1) (v := .int .i64 ((p + z + 1 : Nat) : Int)) (by simp [e0]) (by simp [e5, hw1, hw2]) hb2 (by simp) (by simp) ?_
          intro w3 hb3 hm3 _
          refine ⟨by simp, ?_⟩
          simp [e5]
          exact ⟨hR.setAt (by omega) hb3 hm3, hM.tr hm3⟩
        | false =>
          refine ite_r (t := false) (by simp) (fun h => by cases h) (fun _ => ?_)
          simp [e5, e1]
          by_cases hzm : z = most.toNat
          · rw [hun, unF_form hend hbit hzm]
            refine ite_r (t := true) (by simp; omega) (fun _ => ?_) (fun h => by cases h)
            simp [e0]
            refine st_r (b := b) (o := 2) (by simp [e0]) (by simp; rfl) hb2 (by simp) (by simp) ?_
            intro w3 hb3 hm3 _
            refine ⟨by simp, ?_⟩
            simp
            exact ⟨hR.setErr hb3 hm3, hM.tr hm3⟩
          · refine ite_r (t := false) (by simp; omega) (fun h => by cases h) (fun _ => ?_)
            have hw3 : IntKind.i64.wrap ((z : Int) + 1) = (z : Int) + 1 := wrap_i64 (by omega) (by omega)
            simp [e5, hw3]
            refine ⟨m - 1, by omega, z + 1, by omega, by omega, by omega, by simp [e0], by simp [e1], by simp, ?_, hR, hM⟩
            rw [hun, unF_go hend hbit hzm]
            congr 1; omega
  · refine ite_r (t := true) (by simpa using he) (fun _ => ?_) (fun h => by cases h)
    have hr : rUnary l p e most = (0, p, e) := by simp [rUnary, he]
    simp [hr]
    exact ⟨h, Mod.refl _ _⟩

theorem rEnd_iff (p z : Nat) (h : p + z ≤ rEnd p) : (p + z) % 8 = 0 ↔ p + z = rEnd p := by
  unfold rEnd at *
  constructor <;> intro <;> omega

theorem ynew_c {w : World} {G : Nat → Prop} {v : Value} {l : List Nat} (h : Rd G w v l.length (bytesV l)) (hG : ∀ k, G k → k < w.heap.size) (hf : ∀ x ∈ l, x < 256) (hl : l.length ≤ 17592186044416) :
    Calls Try.prog 31 [v].toArray w (Ret fun r w' => ∃ b : Nat, r = .pointer (some ⟨b, 0, none⟩) ∧ w.heap.size ≤ b ∧ Yr w' G b v l 0 0 ∧ Mod none' w w') := by
  refine F_sound c31 (by simp [fc31]) ?_
  obtain ⟨cap, hv⟩ := h.is
  have h1 : v.cells = #[v] := by rw [hv]; rfl
  simp [fc31, s31, h1]
  refine box_r (.agg #[v, .int .i64 0, .int .i64 0]) (by simp [h1, putAt]) ?_
  intro b w2 hb hb2 hm2 hsz
  refine ⟨by simp, ?_⟩
  simp only [wp_set, wp_ret', postF_ret, oks_cons, oks_nil, E.ok, evs_cons, evs_nil, E.ev, upd_apply, updo_some, if_true, pack_one, true_and]
  exact ⟨b, rfl, by omega, ⟨by omega, fun hk => by have := hG b hk; omega, hf, by omega, hl, h.mod hm2 (fun _ _ h => h), _, hb2⟩, hm2⟩

end Go.Proofs.Ytajkofndbeohpaa.VG
