/-
  Model: what was put is got.
-/
import Derived.Test.YtcljnpodfhgjkaaMn
import Derived.Test.YtcljnpodfhgjkaaRh
namespace Go.Proofs.Ytcljnpodfhgjkaa.VG
open Go
set_option linter.unusedSimpArgs false
set_option linter.unusedVariables false
set_option maxRecDepth 20000

theorem fold_shift (v : Int) {d : Int} (h : dep d = true) : ∃ k : Int, foldI v d = v + p2 d * k := by
  have h2 := Int.mul_ediv_add_emod v (p2 d)
  rw [foldI, if_pos h]
  split
  · refine ⟨-(v / p2 d) - 1, ?_⟩
    rw [Int.mul_sub, Int.mul_neg]; omega
  · refine ⟨-(v / p2 d), ?_⟩
    rw [Int.mul_neg]; omega
theorem fold_fold (v : Int) {d : Int} (h : dep d = true) : foldI (foldI v d) d = foldI v d := by
  refine (fold_same h _).2 (isE_iff.2 ?_)
  have h1 := dep_iff.1 h
  have h2 := p2_two (d := d) (by omega)
  have h4 := p2_bd (d := d - 1) (by omega)
  have h3 := mod_bd v h1.2
  rw [foldI, if_pos h]
  split <;> omega
theorem err_fold {f : Nat → Int} (hf : Wf f) (l : List Int) (W i : Nat) : foldI (errP f l W i) (f 0) = errP f l W i := by
  unfold errP
  split <;> exact fold_fold _ hf.1
theorem err_back {f : Nat → Int} (hf : Wf f) (l : List Int) (W i : Nat) (h : 0 ≤ gi l i ∧ gi l i < p2 (f 0)) :
    wrapI (lookG f l W i + (if lookC l W i (f 0) < 0 then -(errP f l W i) else errP f l W i)) (f 0) = gi l i := by
  have key : ∃ k : Int, lookG f l W i + (if lookC l W i (f 0) < 0 then -(errP f l W i) else errP f l W i) = gi l i + p2 (f 0) * k := by
    unfold errP
    obtain ⟨k1, h1⟩ := fold_shift (gi l i - lookG f l W i) hf.1
    split
    · obtain ⟨k2, h2⟩ := fold_shift (-(foldI (gi l i - lookG f l W i) (f 0))) hf.1
      refine ⟨k1 - k2, ?_⟩
      rw [h2, h1, Int.mul_sub]; omega
    · exact ⟨k1, by rw [h1]; omega⟩
  obtain ⟨k, hk⟩ := key
  rw [wrapI, if_pos hf.1, hk, Int.add_mul_emod_self_left]
  exact Int.emod_eq_of_lt h.1 h.2
theorem bitP_pre (l : List Int) (W : Nat) (d : Int) (i : Nat) : ∀ n, ∃ rest, bitP l W d (i + n) = bitP l W d i ++ rest
  | 0 => ⟨[], by simp⟩
  | n + 1 => by
    obtain ⟨rest, h⟩ := bitP_pre l W d i n
    rw [← Nat.add_assoc, bitP, h]
    exact ⟨rest ++ _, by rw [List.append_assoc]⟩
theorem look_take (l : List Int) (W i : Nat) (d : Int) (hi : i ≤ l.length) : lookC (l.take i) W i d = lookC l W i d ∧ ∀ f, lookG f (l.take i) W i = lookG f l W i := by
  have e : l = l.take i ++ l.drop i := (List.take_append_drop i l).symm
  have hiW : i / W * W + i % W = i := by rw [Nat.mul_comm]; exact Nat.div_add_mod i W
  have hn : nearI l W (i % W : Nat) (i / W : Nat) = nearI (l.take i) W (i % W : Nat) (i / W : Nat) := by
    conv => lhs; rw [e]
    exact near_app _ _ W (i % W) (i / W) (by rw [List.length_take]; omega)
  unfold lookG lookC guessAt
  rw [hn]
  exact ⟨rfl, fun _ => rfl⟩
theorem put_run {p : List Int} {W : Nat} {d : Int} (hd : dep d = true) (ha : p.all (inD d) = true) (z : List Bool) : ∀ i, i ≤ p.length → dRun (packB (bitP p W d p.length ++ z)) W d i = ⟨p.take i, stP p W d i, (bitP p W d i).length, 0, 0⟩
  | 0, _ => by simp [dRun, stP, bitP]
  | i + 1, hi => by
    have ih := put_run (W := W) hd ha z i (by omega)
    obtain ⟨hf, hf0⟩ := stP_wf p W hd i
    have hk := kOf_le hf (farI (lookC p W i d))
    have heb := err_bd hf p W i
    obtain ⟨rest, hpre⟩ := bitP_pre p W d (i + 1) (p.length - (i + 1))
    rw [show i + 1 + (p.length - (i + 1)) = p.length by omega] at hpre
    have hx : 0 ≤ gi p i ∧ gi p i < p2 d := inD_iff.1 (List.all_eq_true.1 ha _ (gi_mem p i (by omega)))
    have hb := getS_back (K := kOf (stP p W d i) (farI (lookC p W i d))) (by omega) [errP (stP p W d i) p W i] (bitP p W d i) (rest ++ z) (by simp [allW, wideB]; omega) (by simp)
    have hB : bitP p W d (i + 1) = bitP p W d i ++ riceBs (kOf (stP p W d i) (farI (lookC p W i d))) [errP (stP p W d i) p W i] := by rw [bitP, hf0]
    have e : bitP p W d p.length ++ z = bitP p W d i ++ riceBs (kOf (stP p W d i) (farI (lookC p W i d))) [errP (stP p W d i) p W i] ++ (rest ++ z) := by
      rw [hpre, hB]; simp [List.append_assoc]
    rw [← e] at hb
    simp only [List.length_singleton] at hb
    have ho := getS_one (packB (bitP p W d p.length ++ z)) (bitP p W d i).length (kOf (stP p W d i) (farI (lookC p W i d))) (by omega)
    rw [show (1 : Int) = ((1 : Nat) : Int) from rfl, hb] at ho
    obtain ⟨l1, l2⟩ := look_take p W i d (by omega)
    rw [dRun, ih, dStep]
    simp only [l1, l2]
    have hef := err_fold hf p W i
    have heb := err_back hf p W i (by rw [hf0]; exact hx)
    rw [hf0] at hef heb
    generalize oneS (packB (bitP p W d p.length ++ z)) (bitP p W d i).length (kOf (stP p W d i) (farI (lookC p W i d))) = o at *
    by_cases h0 : o.1.2 ≠ 0
    · rw [if_pos h0] at ho
      simp at ho
    rw [if_neg h0] at ho
    simp only [Prod.mk.injEq, List.cons.injEq, and_true] at ho
    obtain ⟨q1, q2⟩ := ho
    rw [if_neg (by simp), if_neg h0, ← q1, if_neg (by rw [hef]; simp)]
    rw [heb, ← q2, hB, List.length_append, gi_take_snoc p i (by omega)]
    rw [stP, hf0]
theorem put_got {p : List Int} {wd h d : Int} (hp : planeB p wd h d = true) : getM (packB (putBits p wd h d)) wd h d = ((p, 0), (putBits p wd h d).length, 0) := by
  obtain ⟨W, H', rfl, rfl, hWb, hHb, hd, hln, hall⟩ := nn_dims hp
  have hr := put_run (W := W) hd hall [] p.length (Nat.le_refl _)
  rw [List.append_nil] at hr
  unfold getM putBits
  rw [hp, if_pos rfl, if_pos (sizesB_iff.2 ⟨hd, by omega, by omega⟩)]
  simp only [Int.toNat_natCast]
  rw [← hln, hr]
  simp

end Go.Proofs.Ytcljnpodfhgjkaa.VG
