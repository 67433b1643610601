/-
  Scan: rows of rows read and compared; the order of the program.
-/
import Derived.Test.YtbncppklmhfnmaaNg
namespace Go.Proofs.Ytbncppklmhfnmaa.VG
open Go
set_option linter.unusedSimpArgs false
set_option linter.unusedVariables false
set_option maxRecDepth 20000

structure RdRows (F : Nat → Prop) (w : World) (r : Value) (ls : List (List Int)) : Prop where
  ex : ∃ vs : List Value, vs.length = ls.length ∧ Rd F w r ls.length vs ∧ ∀ (i : Nat) (v : Value) (l : List Int), vs[i]? = some v → ls[i]? = some l → Rd F w v l.length (intsV l)
theorem RdRows.at {F : Nat → Prop} {w w' : World} {r : Value} {ls : List (List Int)} (h : RdRows F w r ls) (m : Mod none' w w') : RdRows F w' r ls := by
  obtain ⟨vs, h1, h2, h3⟩ := h.ex
  exact ⟨vs, h1, h2.at m, fun i v l hv hl => (h3 i v l hv hl).at m⟩
theorem OwnRows.rd {w w' : World} {r : Value} {ls : List (List Int)} (h : OwnRows w w' r ls) : RdRows (fun k => w.heap.size ≤ k) w' r ls := by
  obtain ⟨vs, h1, H⟩ := h
  exact ⟨vs, h1, H.rd 0 rfl, fun i v l hv hl => H.rd (i + 1) (by rw [List.getElem?_cons_succ]; exact rowsI_get hv hl)⟩
theorem OwnRows.mod {w w' : World} {r : Value} {ls : List (List Int)} (h : OwnRows w w' r ls) : Mod none' w w' := by
  obtain ⟨vs, h1, H⟩ := h
  exact H.mod

set_option maxHeartbeats 2000000 in
theorem rowsEq_c {F G : Nat → Prop} {w : World} {u v : Value} {ls ms : List (List Int)} (h : RdRows F w u ls) (k : RdRows G w v ms) (hl : ls.length ≤ 1000000) (hll : ∀ l ∈ ls, l.length ≤ 1000000) :
    Calls Try.prog 12 [u, v].toArray w (Ret fun r w' => r = .bool (ls == ms) ∧ Mod none' w w') := by
  refine F_sound c12 (by simp [fc12]) ?_
  obtain ⟨vs, hvs, h0, h1⟩ := h.ex
  obtain ⟨us, hus, k0, k1⟩ := k.ex
  obtain ⟨hS, hL⟩ := h0.sl
  obtain ⟨kS, kL⟩ := k0.sl
  simp [fc12, s12, hS, hL, kS, kL]
  by_cases hlm : ls.length = ms.length
  · refine ite_r (t := false) (by simp [hlm]) (fun h => by cases h) (fun _ => ?_)
    simp
    refine for_r ls.length (fun i env' w' => env' 0 = u ∧ env' 1 = v ∧ env' 5 = .int .i64 i ∧ Mod none' w w' ∧ ls.take i = ms.take i) ?_ ?_ ?_
    · simp [Mod.refl]
    · rintro i env w' hi ⟨e0, e1, e5, hm, ha⟩
      have wi : IntKind.i64.wrap ((i : Int) + 1) = ((i + 1 : Nat) : Int) := by rw [wI (by omega) (by omega)]; omega
      have hi' : i < ms.length := by omega
      obtain ⟨a, ea⟩ : ∃ a, vs[i]? = some a := ⟨vs[i], List.getElem?_eq_getElem (by omega)⟩
      obtain ⟨b, eb⟩ : ∃ b, us[i]? = some b := ⟨us[i], List.getElem?_eq_getElem (by omega)⟩
      have ca := (h0.at hm.drew).cell i a ea
      have cb := (k0.at hm.drew).cell i b eb
      obtain ⟨pa, _⟩ := h0.ptr (by omega)
      obtain ⟨pb, _⟩ := k0.ptr (by omega)
      have el : ls[i]? = some ls[i] := List.getElem?_eq_getElem hi
      have em : ms[i]? = some ms[i] := List.getElem?_eq_getElem hi'
      have ra := (h1 i a _ ea el).at hm.drew
      have rb := (k1 i b _ eb em).at hm.drew
      have hli := hll ls[i] (List.getElem_mem _)
      simp [e0, e5, hS, hL]
      refine ite_r (t := true) (by simp [hi]) (fun _ => ?_) (fun h => by cases h)
      simp only [cell_drew] at ca cb
      simp [wp_blk, e0, e1, e5, hS, hL, kS, kL, pa, pb, ca, cb, hi, hi']
      refine callm (ints_c ra rb (by unfold maxLen; omega)) (by simp) ?_
      intro w2 M2
      simp
      by_cases he : ls[i] = ms[i]
      · refine ite_r (t := false) (by simp [he]) (fun h => by cases h) (fun _ => ?_)
        simp [wi, e0, e1, e5, -Int.natCast_add]
        refine ⟨by omega, hm.drew.tr M2, ?_⟩
        rw [List.take_add_one, List.take_add_one, ha, el, em, he]
      · refine ite_r (t := true) (by simp [he]) (fun _ => ?_) (fun h => by cases h)
        simp
        refine ⟨?_, hm.drew.tr M2⟩
        rintro rfl
        exact he rfl
    · rintro env w' ⟨e0, e1, e5, hm, ha⟩
      simp [e0, e5, hS, hL]
      refine ite_r (t := false) (by simp) (fun h => by cases h) (fun _ => ?_)
      rw [List.take_length, hlm, List.take_length] at ha
      simp [ha, hm]
  · refine ite_r (t := true) (by simp; omega) (fun _ => ?_) (fun h => by cases h)
    simp [Mod.refl]
    rintro rfl
    exact hlm rfl

def ordL (W H M : Nat) (k : Int) : List Int :=
  if k = 0 then mapTo (rowAt W false) (W * H) else if k = 1 then mapTo (colAt W H) (W * H) else if k = 2 then mapTo (rowAt W true) (W * H)
  else if k = 3 then diagL W H (W + H - 1) else if k = 4 then digL W H M else if k = 5 then passTo W (W * H) 7 else []
def orderI (wd h k : Int) (M : Nat) : List Int := if mayB wd h = true then ordL wd.toNat h.toNat M k else []
theorem OwnRow.nil {w w' : World} (m : Mod none' w w') : OwnRow w w' (.slice none 0 0) [] := (Hp.ofMod m).nilS
theorem passTo_len (W n : Nat) : ∀ k, (passTo W n k).length ≤ k * n
  | 0 => by simp [passTo]
  | k + 1 => by
    have := passTo_len W n k
    have := passL_len k W n
    rw [passTo, List.length_append, Nat.succ_mul]
    omega
theorem passR_get (W n : Nat) : ∀ k i, i < k → (passR W n k)[i]? = some (passL i W n)
  | 0, i, h => by omega
  | k + 1, i, h => by
    rw [passR]
    by_cases hi : i < k
    · rw [List.getElem?_append_left (by rw [passR_len]; exact hi)]
      exact passR_get W n k i hi
    · have : i = k := by omega
      subst this
      rw [List.getElem?_append_right (by rw [passR_len]; exact Nat.le_refl _), passR_len, Nat.sub_self]
      rfl

set_option maxHeartbeats 4000000 in
theorem order_c {w : World} (wd h kd : Int) (M : Nat) (hM : M = 4096) : Calls Try.prog 10 [.int .i64 wd, .int .i64 h, .int .i64 kd].toArray w (Ret fun r w' => OwnRow w w' r (orderI wd h kd M)) := by
  refine F_sound c10 (by simp [fc10]) ?_
  simp [fc10, s10]
  refine callp (may_c wd h) (by simp) ?_
  by_cases hm : mayB wd h = true
  rotate_left
  · have hsz : orderI wd h kd M = [] := by rw [orderI, if_neg hm]
    rw [hsz]
    simp [hm]
    refine ite_r (t := true) (by simp) (fun _ => ?_) (fun h => by cases h)
    simp
    exact OwnRow.nil (Mod.refl _ _)
  obtain ⟨hwb, hhb⟩ := mayB_iff.1 hm
  obtain ⟨W, rfl⟩ : ∃ W : Nat, wd = W := ⟨wd.toNat, by omega⟩
  obtain ⟨H', rfl⟩ : ∃ H' : Nat, h = H' := ⟨h.toNat, by omega⟩
  have hsz : orderI (W : Int) (H' : Int) kd M = ordL W H' M kd := by rw [orderI, if_pos hm]; rfl
  have hpI : passRI (W : Int) (H' : Int) = passR W (W * H') 7 := by rw [passRI, if_pos hm]; rfl
  have hW : 1 ≤ W ∧ W ≤ 64 := by omega
  have hH : 1 ≤ H' ∧ H' ≤ 64 := by omega
  rw [hsz]
  simp [hm]
  refine ite_r (t := false) (by simp) (fun h => by cases h) (fun _ => ?_)
  simp [wp_blk]
  by_cases h0 : kd = 0
  · subst h0
    refine ite_r (t := true) (by simp) (fun _ => ?_) (fun h => by cases h)
    refine call_h (rows_c hW hH false) (by simp) ?_
    intro r w1 h
    simp
    exact h
  refine ite_r (t := false) (by simp [h0]) (fun h => by cases h) (fun _ => ?_)
  simp
  by_cases h1 : kd = 1
  · subst h1
    refine ite_r (t := true) (by simp) (fun _ => ?_) (fun h => by cases h)
    refine call_h (cols_c hW hH) (by simp) ?_
    intro r w1 h
    simp
    exact h
  refine ite_r (t := false) (by simp [h1]) (fun h => by cases h) (fun _ => ?_)
  simp
  by_cases h2 : kd = 2
  · subst h2
    refine ite_r (t := true) (by simp) (fun _ => ?_) (fun h => by cases h)
    refine call_h (rows_c hW hH true) (by simp) ?_
    intro r w1 h
    simp
    exact h
  refine ite_r (t := false) (by simp [h2]) (fun h => by cases h) (fun _ => ?_)
  simp
  by_cases h3 : kd = 3
  · subst h3
    refine ite_r (t := true) (by simp) (fun _ => ?_) (fun h => by cases h)
    refine call_h (diags_c hW hH) (by simp) ?_
    intro r w1 h
    simp
    exact h
  refine ite_r (t := false) (by simp [h3]) (fun h => by cases h) (fun _ => ?_)
  simp
  by_cases h4 : kd = 4
  · subst h4
    refine ite_r (t := true) (by simp) (fun _ => ?_) (fun h => by cases h)
    refine call_h (digits_c hW hH M hM) (by simp) ?_
    intro r w1 h
    simp
    exact h
  refine ite_r (t := false) (by simp [h4]) (fun h => by cases h) (fun _ => ?_)
  simp
  by_cases h5 : kd = 5
  rotate_left
  · refine ite_r (t := false) (by simp [h5]) (fun h => by cases h) (fun _ => ?_)
    simp
    have : ordL W H' M kd = [] := by simp [ordL, h0, h1, h2, h3, h4, h5]
    rw [this]
    exact OwnRow.nil (Mod.refl _ _)
  subst h5
  refine ite_r (t := true) (by simp) (fun _ => ?_) (fun h => by cases h)
  simp
  have e5 : ordL W H' M 5 = passTo W (W * H') 7 := rfl
  rw [e5]
  refine call_h (passes_c (W : Int) (H' : Int)) (by simp) ?_
  intro ov w1 hO
  rw [hpI] at hO
  have hWH : W * H' ≤ 64 * 64 := Nat.mul_le_mul hW.2 hH.2
  have hmod := hO.mod
  obtain ⟨vs, hvs, r0, r1⟩ := hO.rd.ex
  rw [passR_len] at hvs r0
  obtain ⟨rS, rL⟩ := r0.sl
  simp [rS, rL]
  have H := (Hp.nil w1).nilS (e := 3) (size := 1)
  refine for_r 7 (fun i env' w' => env' 44 = ov ∧ env' 45 = .int .i64 7 ∧ env' 46 = .int .i64 i ∧ OwnRow w1 w' (env' 7) (passTo W (W * H') i)) ?_ ?_ ?_
  · simp
    exact H
  · rintro i env w2 hi ⟨e44, e45, e46, H⟩
    have wi : IntKind.i64.wrap ((i : Int) + 1) = ((i + 1 : Nat) : Int) := by rw [wI (by omega) (by omega)]; omega
    obtain ⟨a, ea⟩ : ∃ a, vs[i]? = some a := ⟨vs[i], List.getElem?_eq_getElem (by omega)⟩
    have ca := (r0.at H.mod).cell i a ea
    obtain ⟨pa, _⟩ := r0.ptr (by omega)
    have ra := (r1 i a _ ea (passR_get W (W * H') 7 i hi)).at H.mod
    have l1 := passTo_len W (W * H') i
    have l2 := passL_len i W (W * H')
    have l3 : i * (W * H') ≤ 6 * 4096 := Nat.mul_le_mul (by omega) hWH
    generalize hrv : env 7 = rv at *
    simp [e45, e46]
    refine ite_r (t := true) (by simp; omega) (fun _ => ?_) (fun h => by cases h)
    simp [wp_blk, e44, e46, rS, rL, hi, pa, ca]
    refine ⟨by omega, ?_⟩
    refine app_h slTI 0 H rfl ra (by simp [intsV]) (intsV_one _) (by omega) (by unfold maxLen; omega) (by simp [hrv]) (by simp) ?_
    intro v' w3 H
    refine ⟨.inl rfl, ?_⟩
    simp [-Int.natCast_add, e44, e45, e46, wi]
    simp only [List.set_cons_zero] at H
    rw [intsV_app] at H
    refine ⟨by omega, ?_⟩
    unfold OwnRow
    rw [passTo, List.length_append]
    exact H
  · rintro env w2 ⟨e44, e45, e46, H⟩
    simp [e45, e46]
    refine ite_r (t := false) (by simp) (fun h => by cases h) (fun _ => ?_)
    simp
    exact (Hp.ofMod hmod).join H

end Go.Proofs.Ytbncppklmhfnmaa.VG
