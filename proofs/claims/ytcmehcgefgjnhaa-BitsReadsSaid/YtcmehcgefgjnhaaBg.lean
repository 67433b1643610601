/-
  Bits: the law BitsOctets.
-/
import Derived.Test.YtcmehcgefgjnhaaBf
import Derived.Test.YtcmehcgefgjnhaaLk
namespace Go.Proofs.Ytcmehcgefgjnhaa.VG
open Go
set_option linter.unusedSimpArgs false
set_option linter.unusedVariables false

theorem packB_cons8 (a b : List Bool) (h : a.length = 8) : packB (a ++ b) = ofB a :: packB b := by
  have e : ((a ++ b).length + 7) / 8 = (b.length + 7) / 8 + 1 := by rw [List.length_append, h]; omega
  unfold packB
  rw [e, List.range_succ_eq_map, List.map_cons, List.map_map]
  congr 1
  · unfold byteAt
    have : ((a ++ b).drop (8 * 0)).take 8 = a := by rw [Nat.mul_zero, List.drop_zero, ← h, List.take_left]
    rw [this, h]
    simp
  · apply List.map_congr_left
    intro j _
    unfold byteAt
    have : (a ++ b).drop (8 * (j + 1)) = b.drop (8 * j) := by
      rw [show 8 * (j + 1) = a.length + 8 * j by omega, ← List.drop_drop, List.drop_left]
    simp only [Function.comp, Nat.succ_eq_add_one, this]

/-- Bytes put by eight bits. -/
def octB (l : List Nat) : List Bool := l.flatMap fun x => toB x 8
theorem octB_len (l : List Nat) : (octB l).length = 8 * l.length := by
  induction l with
  | nil => rfl
  | cons x r ih => simp only [octB, List.flatMap_cons, List.length_append, toB_length, List.length_cons] at ih ⊢; omega
theorem octB_snoc (l : List Nat) (x : Nat) : octB (l ++ [x]) = octB l ++ toB x 8 := by simp [octB]
theorem packB_octB (l : List Nat) (h : ∀ x ∈ l, x < 256) : packB (octB l) = l := by
  induction l with
  | nil => rfl
  | cons x r ih =>
    have : octB (x :: r) = toB x 8 ++ octB r := by simp [octB]
    rw [this, packB_cons8 _ _ (toB_length _ _), ofB_toB, ih (fun y hy => h y (by simp [hy]))]
    rw [Nat.mod_eq_of_lt (by have := h x (by simp); omega)]
theorem take_snoc (l : List Nat) (i : Nat) (h : i < l.length) : l.take (i + 1) = l.take i ++ [l.getD i 0] := by
  rw [List.take_add_one, List.getD_eq_getElem?_getD, List.getElem?_eq_getElem h]
  rfl

theorem row_bytes {w : World} {a : Option Addr} {len cap : Nat} {zs : List Int}
    (h : (a = none ∧ len = 0 ∧ cap = 0 ∧ zs = []) ∨ ∃ x, a = some x ∧ len ≤ cap ∧ cap ≤ maxLen ∧ zs.length = cap ∧ (∀ i, i < zs.length → w.cell? (x.add i) = some (.int .u8 (zs.getD i 0))) ∧ ∀ n ∈ zs, (Lit.int .u8 n).wf = true) :
    ∃ l : List Nat, Rd (fun b => b < w.heap.size) w (.slice a len cap) l.length (bytesV l) ∧ (∀ x ∈ l, x < 256) ∧ l.length ≤ maxLen := by
  obtain ⟨hr, hl, hw, hm⟩ := Rd.of_row h
  refine ⟨(zs.take len).map Int.toNat, ?_, ?_, by rw [List.length_map, hl]; exact hm⟩
  · have : bytesV ((zs.take len).map Int.toNat) = (zs.take len).map (Value.int .u8) := by
      unfold bytesV
      rw [List.map_map]
      apply List.map_congr_left
      intro x hx
      obtain ⟨n, rfl, _⟩ := wf_u8 (hw x hx)
      rfl
    rw [this, List.length_map, hl]
    exact hr
  · intro x hx
    simp only [List.mem_map] at hx
    obtain ⟨y, hy, rfl⟩ := hx
    obtain ⟨n, rfl, h⟩ := wf_u8 (hw y hy)
    simpa using h

set_option maxHeartbeats 1000000 in
theorem octets_c {w : World} {v : Value} {l : List Nat} (h : Rd (fun k => k < w.heap.size) w v l.length (bytesV l)) (hf : ∀ x ∈ l, x < 256) (hlm : l.length ≤ maxLen) (skip : Int) :
    Calls Try.prog 4 [v, .int .i64 skip].toArray w (Ret fun r w' => r = .bool true ∧ Mod none' w w') := by
  refine F_sound c4 (by simp [fc4]) ?_
  obtain ⟨cap, hv⟩ := h.is
  have hS : isS v := by rw [hv]; trivial
  have hL : slL v = l.length := by rw [hv]; rfl
  simp only [fc4, s4]
  simp
  refine call_r _ known_c (by simp) ?_
  rintro r w0 ⟨rfl, M0⟩
  refine ⟨by simp, ?_⟩
  simp
  refine ite_r (t := false) (by simp) (fun h => by cases h) (fun _ => ?_)
  simp [hS, hL]
  by_cases hbig : 200 < l.length
  · refine ite_r (t := true) (by simp; omega) (fun _ => ?_) (fun h => by cases h)
    simp
    exact M0
  refine ite_r (t := false) (by simp; omega) (fun h => by cases h) (fun _ => ?_)
  simp
  refine box_r (.agg #[.slice none 0 0, .int .i64 0]) (by simp) ?_
  intro a w1 ha ha1 hm1 _
  have A1 := newWr ha1
  have OA1 : Own w w1 (fun k => k = a) := .new M0 hm1 (fun k hk => by omega)
  refine ⟨by simp, ?_⟩
  simp
  refine loop_w (fun m env' w' => ∃ i : Nat, i ≤ l.length ∧ m = l.length - i ∧ env' 0 = v ∧ env' 1 = .int .i64 skip ∧ env' 5 = .pointer (some ⟨a, 0, none⟩) ∧ env' 6 = .int .i64 i ∧ ∃ F, Wr w' F a (octB (l.take i)) ∧ Own w w' F) l.length
    (fun env' w' => env' 0 = v ∧ env' 1 = .int .i64 skip ∧ env' 5 = .pointer (some ⟨a, 0, none⟩) ∧ ∃ F, Wr w' F a (octB l) ∧ Own w w' F) ?_ ?_ ?_
  · exact ⟨0, by omega, by omega, by simp, by simp, by simp, by simp, _, A1, OA1⟩
  · rintro m env' w' ⟨i, hi, hm, e0, e1, e5, e6, F, hW, hO⟩
    simp [e0, e6, hS, hL]
    by_cases hlt : i < l.length
    · refine ite_r (t := true) (by simp; omega) (fun _ => ?_) (fun h => by cases h)
      simp
      rw [wp_blk]
      have h' := h.mod hO.mod (fun _ _ h => h)
      have hcell := byte_at h' i hlt
      have hp := (h'.ptr (by simp [bytesV]; omega)).1
      have hx : l.getD i 0 < 256 := by
        rw [List.getD_eq_getElem?_getD, List.getElem?_eq_getElem hlt, Option.getD_some]
        exact hf _ (List.getElem_mem _)
      have hw1 : IntKind.u64.wrap ((l.getD i 0 : Nat) : Int) = ((l.getD i 0 : Nat) : Int) := wrap_nat_u64 (by omega)
      have hlen : (octB (l.take i)).length = 8 * i := by rw [octB_len, List.length_take, Nat.min_eq_left hi]
      simp [e0, e6, hS, hp, hL, hcell]
      refine ⟨by omega, ?_⟩
      refine call_r _ (put_yes hW (l.getD i 0) 8 (by omega) (by omega) (by rw [hlen]; omega)) (by simp [e5]; simpa using hw1) ?_
      rintro r w2 ⟨rfl, F2, W2, MA2, hF2⟩
      have O2 := hO.step MA2 (fun _ h => h) hF2
      have hw2 : IntKind.i64.wrap ((i : Int) + 1) = (i : Int) + 1 := wrap_i64 (by omega) (by omega)
      refine ⟨by simp, ?_⟩
      simp [e6, hw2]
      refine ⟨l.length - (i + 1), by omega, i + 1, by omega, rfl, e0, e1, e5, by omega, F2, ?_, O2⟩
      rw [take_snoc l i hlt, octB_snoc]
      exact W2
    · obtain rfl : i = l.length := by omega
      refine ite_r (t := false) (by simp) (fun h => by cases h) (fun _ => ?_)
      simp
      rw [List.take_length] at hW
      exact ⟨e0, e1, e5, F, hW, hO⟩
  · rintro env' w' ⟨e0, e1, e5, F, hW, hO⟩
    have h' := h.mod hO.mod (fun _ _ h => h)
    refine call_r _ (new_c h' hf (by omega)) (by simp [e0]) ?_
    rintro r w2 ⟨b, G, rfl, R2, M2, hG⟩
    have O2 : Own w w2 G := .new hO.mod M2 hG
    have W2 := hW.mod M2 (fun _ _ h => h)
    have h2 := h'.mod M2 (fun _ _ h => h)
    refine ⟨by simp, ?_⟩
    simp
    refine ifg_r (t := false) (by simp) (fun _ => ?_) (fun h => (h rfl).elim)
    refine call_r _ (bytes_c W2 (by rw [octB_len]; omega)) (by simp [e5]) ?_
    rintro vb w3 hvb
    have h3 := h2.mod hvb.2 (fun _ _ h => h)
    have R3 := R2.mod hvb.2 (fun _ _ h => h)
    have O3 := O2.step hvb.2 (fun _ h => h.elim) (fun k hk => .inl hk)
    refine ⟨by simp, ?_⟩
    simp
    refine ifg_r (t := false) (by simp) (fun _ => ?_) (fun h => (h rfl).elim)
    refine call_r _ (same_c hvb.rd h3 (packB_fits _) hf) (by simp [e0]) ?_
    rintro r _ ⟨rfl, rfl⟩
    refine ⟨by simp, ?_⟩
    rw [packB_octB l hf]
    simp
    refine ite_r (t := false) (by simp) (fun h => by cases h) (fun _ => ?_)
    obtain ⟨C, hC, hCn, _⟩ := mask_nat skip 12 (by omega)
    rw [show ((2 ^ 12 - 1 : Nat) : Int) = 4095 from rfl] at hCn
    have hw1 : IntKind.i64.wrap (8 * (l.length : Int)) = 8 * (l.length : Int) := wrap_i64 (by omega) (by omega)
    have hw2 : IntKind.i64.wrap (8 * (l.length : Int) + 1) = 8 * (l.length : Int) + 1 := wrap_i64 (by omega) (by omega)
    obtain ⟨K, hK, hKn⟩ : ∃ K : Nat, K ≤ 8 * l.length ∧ (C : Int).tmod (8 * (l.length : Int) + 1) = K := ⟨C % (8 * l.length + 1), by have := Nat.mod_lt C (show 0 < 8 * l.length + 1 by omega); omega, by rw [tmod_nn (by omega)]; norm_cast⟩
    simp [e0, e1, hS, hL, hCn, hw1, hw2, hKn]
    refine ⟨by omega, ?_⟩
    refine loop_w (fun m env' w' => ∃ i : Nat, i ≤ K ∧ m = K - i ∧ env' 0 = v ∧ env' 7 = .pointer (some ⟨b, 0, none⟩) ∧ env' 8 = .int .i64 K ∧ env' 9 = .int .i64 i ∧ Rr w' G b l i 0 ∧ Own w w' G) K
      (fun env' w' => env' 0 = v ∧ env' 7 = .pointer (some ⟨b, 0, none⟩) ∧ env' 8 = .int .i64 K ∧ Rr w' G b l K 0 ∧ Own w w' G) ?_ ?_ ?_
    · exact ⟨0, by omega, by omega, by simp [e0], by simp, by simp, by simp, R3, O3⟩
    · rintro m env' w' ⟨i, hi, hm, e0, e7, e8, e9, R, O⟩
      simp [e8, e9]
      by_cases hlt : i < K
      · refine ite_r (t := true) (by simp; omega) (fun _ => ?_) (fun h => by cases h)
        simp
        rw [wp_blk]
        refine call_r _ (get_c R 1) (by simp [e7]) ?_
        have hr : rGet l i 0 1 = (ofB (rbits l i 1), i + 1, 0) := by
          unfold rGet
          rw [if_neg (by simp), if_neg (by omega), if_neg (by omega)]
          rfl
        rw [hr]
        rintro r w2 ⟨rfl, R2, M2⟩
        have O2 := O.step M2 (fun k h => h ▸ R.me) (fun k hk => .inl hk)
        have hw3 : IntKind.i64.wrap ((i : Int) + 1) = (i : Int) + 1 := wrap_i64 (by omega) (by omega)
        refine ⟨by simp, ?_⟩
        simp [e9, hw3]
        exact ⟨K - (i + 1), by omega, i + 1, by omega, rfl, e0, e7, e8, by omega, R2, O2⟩
      · obtain rfl : i = K := by omega
        refine ite_r (t := false) (by simp) (fun h => by cases h) (fun _ => ?_)
        simp
        exact ⟨e0, e7, e8, R, O⟩
    · rintro env' w' ⟨e0, e7, e8, R, O⟩
      refine call_r _ (at_c R) (by simp [e7]) ?_
      rintro r _ ⟨rfl, rfl⟩
      refine ⟨by simp, ?_⟩
      simp [e8]
      refine ifg_r (t := false) (by simp) (fun _ => ?_) (fun h => (h rfl).elim)
      refine call_r _ (left_c R) (by simp [e7]) ?_
      rintro r w4 ⟨rfl, M4⟩
      have R4 := R.mod M4 (fun _ _ h => h)
      have O4 := O.step M4 (fun _ h => h.elim) (fun k hk => .inl hk)
      have hw3 : IntKind.i64.wrap (8 * (l.length : Int) - (K : Int)) = 8 * (l.length : Int) - (K : Int) := wrap_i64 (by omega) (by omega)
      have hw4 : IntKind.i64.wrap (8 * (l.length : Int) - 64) = 8 * (l.length : Int) - 64 := wrap_i64 (by omega) (by omega)
      refine ⟨by simp, ?_⟩
      simp [e0, e8, hS, hL, hw1, hw3]
      refine ite_r (t := false) (by simp) (fun h => by cases h) (fun _ => ?_)
      simp
      refine call_r _ (get_c R4 64) (by simp [e7]) ?_
      by_cases hsh : 8 * l.length < K + 64
      · have hr : rGet l K 0 64 = (0, K, 3) := by
          unfold rGet
          rw [if_neg (by simp), if_neg (by omega), if_pos (by omega)]
        rw [hr]
        rintro r w5 ⟨rfl, R5, M5⟩
        have O5 := O4.step M5 (fun k h => h ▸ R4.me) (fun k hk => .inl hk)
        refine ⟨by simp, ?_⟩
        simp [e0, e8, hS, hL, hw1, hw4]
        refine ite_r (t := true) (by simp; omega) (fun _ => ?_) (fun h => by cases h)
        simp
        refine ifg_r (t := true) (by simp) (fun _ => ?_) (fun h => (h rfl).elim)
        refine call_r _ (err_c R5) (by simp [e7]) ?_
        rintro r _ ⟨rfl, rfl⟩
        refine ⟨by simp, ?_⟩
        simp
        refine ifg_r (t := true) (by simp) (fun _ => ?_) (fun h => (h rfl).elim)
        refine call_r _ (at_c R5) (by simp [e7]) ?_
        rintro r _ ⟨rfl, rfl⟩
        refine ⟨by simp, ?_⟩
        simp [e8]
        exact O5.mod
      · have hr : rGet l K 0 64 = (ofB (rbits l K 64), K + 64, 0) := by
          unfold rGet
          rw [if_neg (by simp), if_neg (by omega), if_neg (by omega)]
          rfl
        rw [hr]
        rintro r w5 ⟨rfl, R5, M5⟩
        have O5 := O4.step M5 (fun k h => h ▸ R4.me) (fun k hk => .inl hk)
        have hw5 : IntKind.i64.wrap ((K : Int) + 64) = (K : Int) + 64 := wrap_i64 (by omega) (by omega)
        refine ⟨by simp, ?_⟩
        simp [e0, e8, hS, hL, hw1, hw4]
        refine ite_r (t := false) (by simp; omega) (fun h => by cases h) (fun _ => ?_)
        simp
        refine call_r _ (err_c R5) (by simp [e7]) ?_
        rintro r _ ⟨rfl, rfl⟩
        refine ⟨by simp, ?_⟩
        simp
        refine ifg_r (t := true) (by simp) (fun _ => ?_) (fun h => (h rfl).elim)
        refine call_r _ (at_c R5) (by simp [e7]) ?_
        rintro r _ ⟨rfl, rfl⟩
        refine ⟨by simp, ?_⟩
        simp [e8, hw5]
        exact O5.mod

end Go.Proofs.Ytcmehcgefgjnhaa.VG
