/-
  One symbol is read by the table.
-/
import Derived.Test.YtgjnfajdejkkjaaQs
import Derived.Test.YtgjnfajdejkkjaaRe
namespace Go.Proofs.Ytgjnfajdejkkjaa.VG
open Go
set_option linter.unusedSimpArgs false
set_option linter.unusedVariables false
set_option maxRecDepth 20000

/-- What the table tells of a word of n bits. -/
def lookT (fi : Nat → Int) (sy : Nat → List Nat) (n v : Nat) : Option Nat := if (v : Int) < fi n then none else (sy n)[v - (fi n).toNat]?
/-- A symbol, bit by bit: f lengths are left. -/
def decT (fi : Nat → Int) (sy : Nat → List Nat) (bs : List Nat) : Nat → Nat → Nat → Nat → (Int × Int) × Nat × Int
  | 0, _, _, p => ((0, 2), p, 0)
  | f + 1, n, v, p =>
    if (rGet bs p 0 1).2.2 ≠ 0 then ((0, (rGet bs p 0 1).2.2), (rGet bs p 0 1).2.1, (rGet bs p 0 1).2.2)
    else match lookT fi sy n (2 * v + (rGet bs p 0 1).1) with
      | some s => ((s, 0), (rGet bs p 0 1).2.1, 0)
      | none => decT fi sy bs f (n + 1) (2 * v + (rGet bs p 0 1).1) (rGet bs p 0 1).2.1

set_option maxHeartbeats 8000000 in
theorem read_h {W w : World} {rest : List It} {b t : Nat} {bs : List Nat} {p : Nat} {lo : Nat} {fi : Nat → Int} {sy : Nat → List Nat} (H : Hp W w (.rr b bs p 0 :: .tb t lo fi sy :: rest)) (hlo : lo ≤ 24) (hfi : ∀ n, 0 ≤ fi n ∧ fi n ≤ 16777216)
    (hsl : ∀ n, (sy n).length ≤ 100000) :
    Calls Try.prog 47 [.pointer (some ⟨t, 0, none⟩), .pointer (some ⟨b, 0, none⟩)].toArray w (Ret fun r w' => r = .tuple #[.int .i64 (decT fi sy bs lo 1 0 p).1.1, .int .i64 (decT fi sy bs lo 1 0 p).1.2] ∧
      Hp W w' (.rr b bs (decT fi sy bs lo 1 0 p).2.1 (decT fi sy bs lo 1 0 p).2.2 :: .tb t lo fi sy :: rest)) := by
  refine F_sound c47 (by simp [fc47]) ?_
  simp [fc47, s47]
  generalize hD : decT fi sy bs lo 1 0 p = D
  refine for_r lo (fun k env' w' => env' 0 = .pointer (some ⟨t, 0, none⟩) ∧ env' 1 = .pointer (some ⟨b, 0, none⟩) ∧ env' 7 = .int .i64 (k + 1 : Nat) ∧ ∃ v q, env' 6 = .int .u64 (v : Nat) ∧ v < 2 ^ k ∧ decT fi sy bs (lo - k) (k + 1) v q = D ∧
    Hp W w' (.rr b bs q 0 :: .tb t lo fi sy :: rest)) ?_ ?_ ?_
  · exact ⟨by simp, by simp, by simp, 0, p, by simp, by simp, by simpa using hD, H⟩
  · rintro k env w1 hk ⟨e0, e1, e7, v, q, e6, hv, hd, H⟩
    have wk : IntKind.i64.wrap (((k + 1 : Nat) : Int) + 1) = ((k + 1 + 1 : Nat) : Int) := by rw [wI (by omega) (by omega)]; omega
    have hpow : 2 ^ k ≤ 2 ^ 24 := Nat.pow_le_pow_right (by omega) (by omega)
    obtain ⟨f, hf⟩ : ∃ f, lo - k = f + 1 := ⟨lo - k - 1, by omega⟩
    rw [hf] at hd
    unfold decT at hd
    obtain ⟨F, ⟨vs, T, hF⟩, _⟩ := H.upd 1 rfl
    have c0 := T.cell (o := 0) (by omega)
    rw [tbF_lo] at c0
    simp [e0, c0, e7, -Int.natCast_add]
    refine ite_r (t := true) (by simp; omega) (fun _ => ?_) (fun h => by cases h)
    simp [wp_blk, e6, -Int.natCast_add]
    obtain ⟨FW, hW, hFW, upW⟩ := H.rr 0 rfl
    refine call_h (get_c hW 1) (by simp (disch := omega) [wI, wU, tmod_nn, tdiv_nn, env0_0, env0_1, env0_2, env0_3, env0_4, env0_5, -env0_apply, e1]) ?_
    rintro r wW ⟨rfl, AW⟩
    replace H := upW _ _ _ AW
    have hg2 := rGet_lt bs q 0 1
    generalize hG : rGet bs q 0 1 = g at *
    obtain ⟨g, q', er⟩ := g
    try simp only at hd hg2 H
    obtain ⟨x, rfl⟩ : ∃ x : Bool, g = x.toNat := by
      have hg3 : g < 2 := hg2
      obtain rfl | rfl : g = 0 ∨ g = 1 := by omega
      · exact ⟨false, rfl⟩
      · exact ⟨true, rfl⟩
    have hpb := push_bit' v x (by omega)
    replace H : Hp W wW (.rr b bs q' er :: .tb t lo fi sy :: rest) := H
    obtain ⟨FR, hR, _⟩ := H.rr 0 rfl
    have hx1 : x.toNat ≤ 1 := by cases x <;> simp
    simp [e6, hpb, -Int.natCast_add]
    refine callp (err_c hR) (by simp [e1]) ?_
    by_cases her : er = 0
    · subst her
      simp only [ne_eq, not_true_eq_false, if_false] at hd
      obtain ⟨F, ⟨vs, T, hF⟩, _⟩ := H.upd 1 rfl
      have cf := T.cell (o := 1 + (k + 1)) (by omega)
      have cv := T.cell (o := 26 + (k + 1)) (by omega)
      rw [tbF_fi _ _ _ (by omega)] at cf
      rw [tbF_vs] at cv
      have hrow := T.row (k + 1) (by omega)
      have hrd := Rd.of_owns hrow
      obtain ⟨vS, vL⟩ := hrd.sl
      obtain ⟨f0, f1⟩ := hfi (k + 1)
      obtain ⟨fn, hfn⟩ : ∃ fn : Nat, fi (k + 1) = fn := ⟨(fi (k + 1)).toNat, by omega⟩
      have hsl' := hsl (k + 1)
      have hv' : 2 * v + x.toNat < 2 ^ (k + 1) := by rw [Nat.pow_succ]; omega
      generalize hu : 2 * v + x.toNat = u at *
      generalize hn : k + 1 = n at *
      rw [hfn] at cf
      simp
      refine ite_r (t := false) (by simp) (fun h => by cases h) (fun _ => ?_)
      simp [e0, e7, cf, show n < 25 by omega, -Int.natCast_add]
      refine ⟨by omega, ?_⟩
      by_cases hlt : u < fn
      · have hlk : lookT fi sy n u = none := by unfold lookT; rw [hfn, if_pos (by omega)]
        rw [hlk] at hd
        refine ite_r (t := true) (by simp [hlt]) (fun _ => ?_) (fun h => by cases h)
        simp [e7, wk, -Int.natCast_add]
        refine ⟨by simp [e0], by simp [e1], by simp, u, rfl, hv', q', by rw [show lo - n = f by omega]; exact hd, H⟩
      · have hsub : IntKind.u64.wrap ((u : Int) - fn) = ((u - fn : Nat) : Int) := by rw [wU (by omega) (by omega)]; omega
        have hcl : IntKind.u64.wrap ((sy n).length : Int) = ((sy n).length : Int) := wU (by omega) (by omega)
        have hlk : lookT fi sy n u = (sy n)[u - fn]? := by unfold lookT; rw [hfn, if_neg (by omega), Int.toNat_natCast]
        rw [hlk] at hd
        refine ite_r (t := false) (by simp; omega) (fun h => by cases h) (fun _ => ?_)
        simp [e0, e7, cf, cv, hsub, vS, vL, hcl, show n < 25 by omega, -Int.natCast_add]
        refine ⟨by omega, ?_⟩
        by_cases hix : u - fn < (sy n).length
        · have cell := rdN hrd (u - fn) hix
          have pp := rdN_ptr hrd (by omega)
          rw [gnn_lt hix] at hd
          refine ite_r (t := true) (by simp; omega) (fun _ => ?_) (fun h => by cases h)
          simp [e0, e7, cv, vS, vL, cell, pp, hix, show n < 25 by omega, -Int.natCast_add]
          refine ⟨by omega, ?_⟩
          subst hd
          exact ⟨⟨rfl, rfl⟩, H⟩
        · rw [List.getElem?_eq_none (by omega)] at hd
          refine ite_r (t := false) (by simp; omega) (fun h => by cases h) (fun _ => ?_)
          simp [e7, wk, -Int.natCast_add]
          refine ⟨by simp [e0], by simp [e1], by simp, u, rfl, hv', q', by rw [show lo - n = f by omega]; exact hd, H⟩
    · simp only [ne_eq, her, not_false_eq_true, if_true] at hd
      simp [her]
      refine ite_r (t := true) (by simp [her]) (fun _ => ?_) (fun h => by cases h)
      refine callp (err_c hR) (by simp [e1]) ?_
      simp
      subst hd
      exact ⟨⟨rfl, rfl⟩, H⟩
  · rintro env w1 ⟨e0, e1, e7, v, q, e6, hv, hd, H⟩
    obtain ⟨F, ⟨vs, T, hF⟩, _⟩ := H.upd 1 rfl
    have c0 := T.cell (o := 0) (by omega)
    rw [tbF_lo] at c0
    rw [Nat.sub_self] at hd
    unfold decT at hd
    subst hd
    simp [e0, c0, e7]
    refine ite_r (t := false) (by simp; omega) (fun h => by cases h) (fun _ => ?_)
    simp
    exact H

end Go.Proofs.Ytgjnfajdejkkjaa.VG
