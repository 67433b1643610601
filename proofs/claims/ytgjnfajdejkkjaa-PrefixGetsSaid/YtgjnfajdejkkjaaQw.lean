/-
  One symbol is read as the document says.
-/
import Derived.Test.YtgjnfajdejkkjaaQv
namespace Go.Proofs.Ytgjnfajdejkkjaa.VG
open Go
set_option linter.unusedSimpArgs false
set_option linter.unusedVariables false
set_option maxRecDepth 20000

/-- The document's reader at p with the words' and the symbols' rows beside it. -/
def WdI (b : Nat) (vB : Value) (p : Nat) (e : Int) (cv rv : Value) (l : List Int) (rest : List It) : List It :=
  .blk b #[vB, .int .i64 p, .int .i64 e] :: .own 33 1 cv l.length (wdsV (cdW l)) :: .own 3 1 rv (rk l).length (natsV (rk l)) :: rest

theorem bitsW_le (bs : List Nat) : ∀ (m v p n : Nat), v < 2 ^ n → (bitsW bs m v p).1 < 2 ^ (n + m)
  | 0, v, p, n, h => by simpa [bitsW] using h
  | m + 1, v, p, n, h => by
    rw [bitsW]
    have hp : 2 ^ n ≤ 2 ^ (n + (m + 1)) := Nat.pow_le_pow_right (by omega) (by omega)
    split
    · exact Nat.lt_of_lt_of_le h hp
    · have hg := rGet_lt bs p 0 1
      have hg' : (rGet bs p 0 1).1 < 2 := hg
      have := bitsW_le bs m (2 * v + (rGet bs p 0 1).1) (rGet bs p 0 1).2.1 (n + 1) (by rw [Nat.pow_succ]; omega)
      rwa [show n + (m + 1) = n + 1 + m by omega]

set_option maxHeartbeats 8000000 in
theorem word_h {W w : World} {rest : List It} {b : Nat} {bs : List Nat} {p : Nat} {vB cv rv v : Value} {l : List Int} (H : Hp W w (WdI b vB p 0 cv rv l rest)) (hB : Rd (fun k => k < W.heap.size) W vB bs.length (bytesV bs)) (hfB : ∀ x ∈ bs, x < 256) (hle : p ≤ 8 * bs.length)
    (hsm : bs.length ≤ 17592186044416) (hl : l.length ≤ 1024) (hr : Rd (fun k => k < W.heap.size) W v l.length (intsV l)) :
    Calls Try.prog 48 [.pointer (some ⟨b, 0, none⟩), v, cv, rv].toArray w (Ret fun r w' => r = .tuple #[.int .i64 (decW l bs (rk l) 0 0 p).1.1, .int .i64 (decW l bs (rk l) 0 0 p).1.2] ∧
      (decW l bs (rk l) 0 0 p).2.1 ≤ 8 * bs.length ∧ Hp W w' (WdI b vB (decW l bs (rk l) 0 0 p).2.1 (decW l bs (rk l) 0 0 p).2.2 cv rv l rest)) := by
  refine F_sound c48 (by simp [fc48]) ?_
  obtain ⟨lS, lL⟩ := hr.sl
  have hN := rk_le l
  simp [fc48, s48]
  generalize hD : decW l bs (rk l) 0 0 p = D
  refine for_r (rk l).length (fun k env' w' => env' 0 = .pointer (some ⟨b, 0, none⟩) ∧ env' 1 = v ∧ env' 2 = cv ∧ env' 3 = rv ∧ env' 12 = .int .i64 k ∧ ∃ x n q, env' 10 = .int .u64 (x : Nat) ∧ env' 11 = .int .i64 (n : Nat) ∧ x < 2 ^ n ∧ n ≤ 24 ∧ (k < (rk l).length → (n : Int) ≤ gi l (gnn (rk l) k)) ∧ q ≤ 8 * bs.length ∧
    decW l bs ((rk l).drop k) n x q = D ∧ Hp W w' (WdI b vB q 0 cv rv l rest)) ?_ ?_ ?_
  · exact ⟨by simp, by simp, by simp, by simp, by simp, 0, 0, p, by simp, by simp, by simp, by omega, fun h => by have := rk_lt h; omega, hle, by simpa using hD, H⟩
  · rintro k env w1 hk ⟨e0, e1, e2, e3, e12, x, n, q, e10, e11, hx, hn, hng, hq, hd, H⟩
    have wk : IntKind.i64.wrap ((k : Int) + 1) = ((k + 1 : Nat) : Int) := by rw [wI (by omega) (by omega)]; omega
    obtain ⟨k1, k2, k3⟩ := rk_lt hk
    have hng := hng hk
    have hnx : k + 1 < (rk l).length → gi l (gnn (rk l) k) ≤ gi l (gnn (rk l) (k + 1)) := fun h => rk_mono (by omega) h
    rw [show (rk l).drop k = gnn (rk l) k :: (rk l).drop (k + 1) by rw [List.drop_eq_getElem_cons hk, gnn_get hk], decW] at hd
    obtain ⟨s, hs⟩ : ∃ s, gnn (rk l) k = s := ⟨_, rfl⟩
    rw [hs] at k1 k2 k3 hng hnx hd
    obtain ⟨m, hm⟩ : ∃ m : Nat, gi l s = m := ⟨(gi l s).toNat, by omega⟩
    rw [hm] at k2 k3 hng hnx hd
    rw [Int.toNat_natCast] at hd
    obtain ⟨rS, rL⟩ := (H.rd 2 rfl).sl
    simp [e3, e12, rS, rL]
    refine ite_r (t := true) (by simp; omega) (fun _ => ?_) (fun h => by cases h)
    show S.wp _ (S.blk 1 _ _) _ _ _
    rw [wp_blk]
    have hbw : (bitsW bs (m - n) x q).1 < 2 ^ m := by
      have := bitsW_le bs (m - n) x q n hx
      rwa [show n + (m - n) = m by omega] at this
    generalize hG : bitsW bs (m - n) x q = g at *
    refine for_r (m - n) (fun j env' w' => env' 0 = .pointer (some ⟨b, 0, none⟩) ∧ env' 1 = v ∧ env' 2 = cv ∧ env' 3 = rv ∧ env' 12 = .int .i64 k ∧ ∃ y z, env' 10 = .int .u64 (y : Nat) ∧ env' 11 = .int .i64 (n + j : Nat) ∧ y < 2 ^ (n + j) ∧ z ≤ 8 * bs.length ∧
      bitsW bs (m - n - j) y z = g ∧ Hp W w' (WdI b vB z 0 cv rv l rest)) ?_ ?_ ?_
    · exact ⟨by simp [e0], by simp [e1], by simp [e2], by simp [e3], by simp [e12], x, q, by simp [e10], by simp [e11], hx, hq, hG, H⟩
    · rintro j env w2 hj ⟨e0, e1, e2, e3, e12, y, z, e10, e11, hy, hz, hb, H⟩
      have wj : IntKind.i64.wrap (((n + j : Nat) : Int) + 1) = ((n + (j + 1) : Nat) : Int) := by rw [wI (by omega) (by omega)]; omega
      have hpow : 2 ^ (n + j) ≤ 2 ^ 24 := Nat.pow_le_pow_right (by omega) (by omega)
      obtain ⟨rS, rL⟩ := (H.rd 2 rfl).sl
      have cr := rdN (H.rd 2 rfl) k hk
      have pr := rdN_ptr (H.rd 2 rfl) (by omega)
      have cl := (hr.at H.mod).gi s k1
      have pl := hr.some (by omega)
      rw [hs] at cr
      rw [hm] at cl
      rw [show m - n - j = (m - n - (j + 1)) + 1 by omega, bitsW] at hb
      simp [e1, e3, e11, e12, rS, rL, lS, lL, cr, pr, cl, pl, hk, k1, -Int.natCast_add]
      refine ite_r (t := true) (by simp; omega) (fun _ => ?_) (fun h => by cases h)
      show S.wp _ (S.blk 3 _ _) _ _ _
      rw [wp_blk]
      obtain ⟨hY, upY⟩ := H.yr 0 rfl hB hfB hz hsm
      simp [e10, -Int.natCast_add]
      refine call_h (yget_c hY 1) (by simp [e0]) ?_
      rintro r w3 ⟨rfl, AY⟩
      replace H := upY _ _ _ AY
      have hz' := AY.1.le
      have hg2 := rGet_lt bs z 0 1
      rw [show ((1 : Nat) : Int) = 1 from rfl] at hg2
      generalize hR : rGet bs z 0 1 = gg at *
      obtain ⟨y1, z1, er⟩ := gg
      simp only at hb hg2 H hz'
      replace H : Hp W w3 (WdI b vB z1 er cv rv l rest) := H
      obtain ⟨xb, rfl⟩ : ∃ xb : Bool, y1 = xb.toNat := by
        have hg3 : y1 < 2 := hg2
        obtain rfl | rfl : y1 = 0 ∨ y1 = 1 := by omega
        · exact ⟨false, rfl⟩
        · exact ⟨true, rfl⟩
      have hpb := push_bit' y xb (by omega)
      have hx1 : xb.toNat ≤ 1 := by cases xb <;> simp
      have c2 := H.blk 0 rfl 2
      simp at c2
      simp [e0, e10, e11, hpb, wj, c2, -Int.natCast_add]
      by_cases her : er = 0
      · subst her
        simp only [ne_eq, not_true_eq_false, if_false] at hb
        refine ite_r (t := false) (by simp) (fun h => by cases h) (fun _ => ?_)
        simp [e0, e1, e2, e3, e12, -Int.natCast_add]
        refine ⟨2 * y + xb.toNat, rfl, by rw [← Nat.add_assoc, Nat.pow_succ]; omega, z1, hz', hb, H⟩
      · simp only [ne_eq, her, not_false_eq_true, if_true] at hb
        refine ite_r (t := true) (by simp [her]) (fun _ => ?_) (fun h => by cases h)
        subst hb
        simp only [ne_eq, her, not_false_eq_true, if_true] at hd
        subst hd
        have H := H.drew
        have c2 := H.blk 0 rfl 2
        simp at c2
        simp [wp_draw, e0, c2]
        exact ⟨hz', H⟩
    · rintro env w2 ⟨e0, e1, e2, e3, e12, y, z, e10, e11, hy, hz, hb, H⟩
      rw [show n + (m - n) = m by omega] at e11 hy
      rw [Nat.sub_self, bitsW] at hb
      subst hb
      simp only [ne_eq, not_true_eq_false, if_false] at hd
      obtain ⟨rS, rL⟩ := (H.rd 2 rfl).sl
      obtain ⟨cS, cL⟩ := (H.rd 1 rfl).sl
      have cr := rdN (H.rd 2 rfl) k hk
      have pr := rdN_ptr (H.rd 2 rfl) (by omega)
      have hcw : (cdW l).length = l.length := cdN_len l _
      have cc := rdW (H.rd 1 rfl) s (by rw [hcw]; exact k1)
      have pc := rdW_ptr (H.rd 1 rfl) (by rw [hcw]; omega)
      have cl := (hr.at H.mod).gi s k1
      have pl := hr.some (by omega)
      rw [hs] at cr
      rw [hm] at cl
      simp [e1, e3, e11, e12, rS, rL, lS, lL, cr, pr, cl, pl, hk, k1, -Int.natCast_add]
      refine ite_r (t := false) (by simp) (fun h => by cases h) (fun _ => ?_)
      simp [e2, e3, e10, e12, rS, rL, cS, cL, cr, pr, cc, pc, hk, k1]
      by_cases hw : gi (cdW l) s = (y : Int)
      · rw [if_pos hw] at hd
        subst hd
        refine ite_r (t := true) (by simp [hw]) (fun _ => ?_) (fun h => by cases h)
        simp [e3, e12, rS, rL, cr, pr, hk]
        exact ⟨hz, H⟩
      · rw [if_neg hw] at hd
        refine ite_r (t := false) (by simp [hw]) (fun h => by cases h) (fun _ => ?_)
        simp [e0, e1, e2, e3, e12, wk, -Int.natCast_add]
        exact ⟨by simp, y, e10, m, e11, hy, by omega, fun h => by have := hnx h; omega, z, hz, hd, H⟩
  · rintro env w1 ⟨e0, e1, e2, e3, e12, x, n, q, e10, e11, hx, hn, hng, hq, hd, H⟩
    obtain ⟨rS, rL⟩ := (H.rd 2 rfl).sl
    rw [List.drop_length, decW] at hd
    subst hd
    simp [e3, e12, rS, rL]
    refine ite_r (t := false) (by simp) (fun h => by cases h) (fun _ => ?_)
    simp
    exact ⟨hq, H⟩

end Go.Proofs.Ytgjnfajdejkkjaa.VG
