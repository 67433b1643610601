/-
  Scan: lists in an order, and back.
-/
import Derived.Test.YtbncppklmhfnmaaNj
namespace Go.Proofs.Ytbncppklmhfnmaa.VG
open Go
set_option linter.unusedSimpArgs false
set_option linter.unusedVariables false
set_option maxRecDepth 20000

def takeL (l o : List Int) (k : Nat) : List Int := mapTo (fun i => gi l (gi o i).toNat) k
def layTo (l o : List Int) (n : Nat) : Nat → List Int
  | 0 => List.replicate n 0
  | k + 1 => (layTo l o n k).set (gi o k).toNat (gi l k)
theorem layTo_len (l o : List Int) (n : Nat) : ∀ k, (layTo l o n k).length = n
  | 0 => by simp [layTo]
  | k + 1 => by simp [layTo, layTo_len l o n k]
noncomputable def takeR (l o : List Int) : List Int × Bool := if okB o l.length = true then (takeL l o o.length, true) else ([], false)
noncomputable def layR (l o : List Int) : List Int × Bool := if okB o l.length = true then (layTo l o l.length o.length, true) else ([], false)
def RowOk (w w' : World) (r : Value) (s : List Int × Bool) : Prop := ∃ u, r = .tuple #[u, .bool s.2] ∧ OwnRow w w' u s.1
theorem fill_set {p : List Int} {n i : Nat} (v : Int) (hp : p.length = i) (hi : i < n) : (intsV (p ++ List.replicate (n - i) 0)).set i (.int .i64 v) = intsV (p ++ [v] ++ List.replicate (n - (i + 1)) 0) := by
  obtain ⟨m, hm⟩ : ∃ m, n - i = m + 1 := ⟨n - i - 1, by omega⟩
  rw [hm, show n - (i + 1) = m by omega, List.replicate_succ]
  subst hp
  simp [intsV, List.set_append]

section
variable {F G : Nat → Prop} {w : World} {v u : Value} {l o : List Int}
set_option maxHeartbeats 2000000 in
theorem take_c (hl : Rd F w v l.length (intsV l)) (ho : Rd G w u o.length (intsV o)) (h1 : l.length ≤ 1000000) (h2 : o.length ≤ 1000000) :
    Calls Try.prog 20 [v, u].toArray w (Ret fun r w' => RowOk w w' r (takeR l o)) := by
  refine F_sound c20 (by simp [fc20]) ?_
  obtain ⟨hS, hL⟩ := hl.sl
  obtain ⟨oS, oL⟩ := ho.sl
  simp [fc20, s20, hS, hL, oS, oL]
  refine callm (permutes_c ho h2 l.length) (by simp [hS, hL]) ?_
  intro w1 M1
  cases hok : okB o l.length
  · have hr : takeR l o = ([], false) := by simp [takeR, hok]
    rw [hr]
    simp
    refine ite_r (t := true) (by simp) (fun _ => ?_) (fun h => by cases h)
    simp
    exact ⟨_, rfl, OwnRow.nil M1⟩
  have hk := okB_iff.1 hok
  have hn := hk.1
  have hr : takeR l o = (takeL l o o.length, true) := by simp [takeR, hok]
  rw [hr]
  simp
  refine ite_r (t := false) (by simp) (fun h => by cases h) (fun _ => ?_)
  simp [hS, hL]
  refine mkN_h slTI (kl := .i64) (kc := .i64) (n := o.length) (xs := intsV (List.replicate o.length 0)) (Hp.ofMod M1) (by simp [hS, hL, hn]) (by simp [hS, hL, hn]) (by omega) (by unfold maxLen; omega) (fun z hz => by rw [zero64 hz, intsV_zeros]) ?_
  intro rv w2 H M2
  refine ⟨.inl rfl, ?_⟩
  obtain ⟨rS, rL⟩ := (H.rd 0 rfl).sl
  simp [oS, oL]
  refine for_r o.length (fun i env' w' => env' 0 = v ∧ env' 6 = rv ∧ env' 17 = u ∧ env' 18 = .int .i64 o.length ∧ env' 19 = .int .i64 i ∧ Hp w w' [.own 3 1 rv o.length (intsV (takeL l o i ++ List.replicate (o.length - i) 0))]) ?_ ?_ ?_
  · simp [takeL, mapTo]
    exact H
  · rintro i env w3 hi ⟨e0, e6, e17, e18, e19, H⟩
    have wi : IntKind.i64.wrap ((i : Int) + 1) = ((i + 1 : Nat) : Int) := by rw [wI (by omega) (by omega)]; omega
    have oc := (ho.at H.mod).gi i hi
    have op := ho.some (by omega)
    obtain ⟨k, hk', hkn⟩ := ok_gi hk i hi
    have lc := (hl.at H.mod).gi k hkn
    have lp := hl.some (by omega)
    have htl : takeL l o (i + 1) = takeL l o i ++ [gi l k] := by rw [takeL, mapTo_succ, hk']; rfl
    have hlen : (takeL l o i).length = i := mapTo_len _ _
    have hpr := (H.rd 0 rfl).some (by simp; omega)
    rw [hk'] at oc
    simp [e18, e19]
    refine ite_r (t := true) (by simp; omega) (fun _ => ?_) (fun h => by cases h)
    simp [wp_blk, e0, e6, e17, e19, hS, hL, oS, oL, rS, rL, hi, op, oc, lp, lc, hkn, hpr]
    refine set_h 0 H rfl (i := i) (u := .int .i64 (gi l k)) hi (by simp [e6, e19, rS, rL, hi, hpr]) (by simp [e0, e17, e19, hS, hL, oS, oL, hi, op, oc, lp, lc, hkn]) (by simp) ?_
    intro w4 H
    refine ⟨.inl rfl, ?_⟩
    simp [-Int.natCast_add, e0, e6, e17, e18, e19, wi]
    simp only [List.set_cons_zero] at H
    rw [fill_set _ hlen hi, ← htl] at H
    exact ⟨by omega, H⟩
  · rintro env w3 ⟨e0, e6, e17, e18, e19, H⟩
    simp [e18, e19]
    refine ite_r (t := false) (by simp) (fun h => by cases h) (fun _ => ?_)
    simp [e6]
    refine ⟨rv, rfl, ?_⟩
    unfold OwnRow
    simp [takeL, mapTo_len] at H ⊢
    exact H

set_option maxHeartbeats 2000000 in
theorem scanTake_c (hl : Rd F w v l.length (intsV l)) (ho : Rd G w u o.length (intsV o)) (h1 : l.length ≤ 1000000) (h2 : o.length ≤ 1000000) :
    Calls Try.prog 32 [v, u].toArray w (Ret fun r w' => RowOk w w' r (takeR l o)) := by
  refine F_sound c32 (by simp [fc32]) ?_
  obtain ⟨hS, hL⟩ := hl.sl
  obtain ⟨oS, oL⟩ := ho.sl
  simp [fc32, s32, hS, hL, oS, oL]
  refine callm (all_c ho h2 l.length) (by simp [hS, hL]) ?_
  intro w1 M1
  cases hok : okB o l.length
  · have hr : takeR l o = ([], false) := by simp [takeR, hok]
    rw [hr]
    simp
    refine ite_r (t := true) (by simp) (fun _ => ?_) (fun h => by cases h)
    simp
    exact ⟨_, rfl, OwnRow.nil M1⟩
  have hk := okB_iff.1 hok
  have hn := hk.1
  have hr : takeR l o = (takeL l o o.length, true) := by simp [takeR, hok]
  rw [hr]
  simp
  refine ite_r (t := false) (by simp) (fun h => by cases h) (fun _ => ?_)
  simp
  have H := (Hp.ofMod M1).nilS (e := 3) (size := 1)
  refine for_r o.length (fun i env' w' => env' 0 = v ∧ env' 1 = u ∧ env' 7 = .int .i64 i ∧ OwnRow w w' (env' 6) (takeL l o i)) ?_ ?_ ?_
  · simp [takeL, mapTo]
    exact H
  · rintro i env w3 hi ⟨e0, e1, e7, H⟩
    have wi : IntKind.i64.wrap ((i : Int) + 1) = ((i + 1 : Nat) : Int) := by rw [wI (by omega) (by omega)]; omega
    have oc := (ho.at H.mod).gi i hi
    have op := ho.some (by omega)
    obtain ⟨k, hk', hkn⟩ := ok_gi hk i hi
    have lc := (hl.at H.mod).gi k hkn
    have lp := hl.some (by omega)
    have htl : takeL l o (i + 1) = takeL l o i ++ [gi l k] := by rw [takeL, mapTo_succ, hk']; rfl
    have hlen : (takeL l o i).length = i := mapTo_len _ _
    rw [hk'] at oc
    generalize hrv : env 6 = rv at *
    unfold OwnRow at H
    simp [e1, e7, oS, oL]
    refine ite_r (t := true) (by simp; omega) (fun _ => ?_) (fun h => by cases h)
    simp [wp_blk, e0, e1, e7, hS, hL, oS, oL, hi, op, oc, lp, lc, hkn]
    refine app1_h slTI 0 H rfl (u := .int .i64 (gi l k)) (by simp) (by omega) (by unfold maxLen; omega) (by simp) (by simp [hrv]) (by simp) (by simp) ?_
    intro vb v' w5 w6 H
    refine ⟨.inl rfl, ?_⟩
    simp [-Int.natCast_add, e0, e1, e7, wi]
    simp only [List.set_cons_zero] at H
    rw [intsV_snoc, ← htl] at H
    refine ⟨by omega, ?_⟩
    unfold OwnRow
    rw [htl, List.length_append]
    rw [htl] at H
    exact H
  · rintro env w3 ⟨e0, e1, e7, H⟩
    simp [e1, e7, oS, oL]
    refine ite_r (t := false) (by simp) (fun h => by cases h) (fun _ => ?_)
    simp
    exact ⟨_, rfl, H⟩

set_option maxHeartbeats 2000000 in
theorem lay_c (hl : Rd F w v l.length (intsV l)) (ho : Rd G w u o.length (intsV o)) (h1 : l.length ≤ 1000000) (h2 : o.length ≤ 1000000) :
    Calls Try.prog 21 [v, u].toArray w (Ret fun r w' => RowOk w w' r (layR l o)) := by
  refine F_sound c21 (by simp [fc21]) ?_
  obtain ⟨hS, hL⟩ := hl.sl
  obtain ⟨oS, oL⟩ := ho.sl
  simp [fc21, s21, hS, hL, oS, oL]
  refine callm (permutes_c ho h2 l.length) (by simp [hS, hL]) ?_
  intro w1 M1
  cases hok : okB o l.length
  · have hr : layR l o = ([], false) := by simp [layR, hok]
    rw [hr]
    simp
    refine ite_r (t := true) (by simp) (fun _ => ?_) (fun h => by cases h)
    simp
    exact ⟨_, rfl, OwnRow.nil M1⟩
  have hk := okB_iff.1 hok
  have hn := hk.1
  have hr : layR l o = (layTo l o l.length o.length, true) := by simp [layR, hok]
  rw [hr]
  simp
  refine ite_r (t := false) (by simp) (fun h => by cases h) (fun _ => ?_)
  simp [hS, hL]
  refine mkN_h slTI (kl := .i64) (kc := .i64) (n := l.length) (xs := intsV (List.replicate l.length 0)) (Hp.ofMod M1) (by simp [hS, hL]) (by simp [hS, hL]) (by omega) (by unfold maxLen; omega) (fun z hz => by rw [zero64 hz, intsV_zeros]) ?_
  intro rv w2 H M2
  refine ⟨.inl rfl, ?_⟩
  obtain ⟨rS, rL⟩ := (H.rd 0 rfl).sl
  simp [oS, oL]
  refine for_r o.length (fun i env' w' => env' 0 = v ∧ env' 6 = rv ∧ env' 17 = u ∧ env' 18 = .int .i64 o.length ∧ env' 19 = .int .i64 i ∧ Hp w w' [.own 3 1 rv l.length (intsV (layTo l o l.length i))]) ?_ ?_ ?_
  · simp [layTo]
    exact H
  · rintro i env w3 hi ⟨e0, e6, e17, e18, e19, H⟩
    have wi : IntKind.i64.wrap ((i : Int) + 1) = ((i + 1 : Nat) : Int) := by rw [wI (by omega) (by omega)]; omega
    have oc := (ho.at H.mod).gi i hi
    have op := ho.some (by omega)
    obtain ⟨k, hk', hkn⟩ := ok_gi hk i hi
    have hil : i < l.length := by omega
    have lc := (hl.at H.mod).gi i hil
    have lp := hl.some (by omega)
    have htl : layTo l o l.length (i + 1) = (layTo l o l.length i).set k (gi l i) := by rw [layTo, hk']; rfl
    have hpr := (H.rd 0 rfl).some (by rw [layTo_len]; omega)
    rw [hk'] at oc
    simp [e18, e19]
    refine ite_r (t := true) (by simp; omega) (fun _ => ?_) (fun h => by cases h)
    simp [wp_blk, e0, e6, e17, e19, hS, hL, oS, oL, rS, rL, hi, hil, op, oc, lp, lc, hkn, hpr]
    refine set_h 0 H rfl (i := k) (u := .int .i64 (gi l i)) hkn (by simp [e6, e17, e19, oS, oL, hi, op, oc, rS, rL, hkn, hpr]) (by simp [e0, e17, e19, hS, hL, oS, oL, hi, op, oc, lp, lc, hil]) (by simp) ?_
    intro w4 H
    refine ⟨.inl rfl, ?_⟩
    simp [-Int.natCast_add, e0, e6, e17, e18, e19, wi]
    simp only [List.set_cons_zero] at H
    rw [intsV_put, ← htl] at H
    exact ⟨by omega, H⟩
  · rintro env w3 ⟨e0, e6, e17, e18, e19, H⟩
    simp [e18, e19]
    refine ite_r (t := false) (by simp) (fun h => by cases h) (fun _ => ?_)
    simp [e6]
    refine ⟨rv, rfl, ?_⟩
    unfold OwnRow
    simp [layTo_len]
    exact H

set_option maxHeartbeats 2000000 in
theorem scanLay_c (hl : Rd F w v l.length (intsV l)) (ho : Rd G w u o.length (intsV o)) (h1 : l.length ≤ 1000000) (h2 : o.length ≤ 1000000) :
    Calls Try.prog 33 [v, u].toArray w (Ret fun r w' => RowOk w w' r (layR l o)) := by
  refine F_sound c33 (by simp [fc33]) ?_
  obtain ⟨hS, hL⟩ := hl.sl
  obtain ⟨oS, oL⟩ := ho.sl
  simp [fc33, s33, hS, hL, oS, oL]
  refine callm (all_c ho h2 l.length) (by simp [hS, hL]) ?_
  intro w1 M1
  cases hok : okB o l.length
  · have hr : layR l o = ([], false) := by simp [layR, hok]
    rw [hr]
    simp
    refine ite_r (t := true) (by simp) (fun _ => ?_) (fun h => by cases h)
    simp
    exact ⟨_, rfl, OwnRow.nil M1⟩
  have hk := okB_iff.1 hok
  have hn := hk.1
  have hr : layR l o = (layTo l o l.length o.length, true) := by simp [layR, hok]
  rw [hr]
  simp
  refine ite_r (t := false) (by simp) (fun h => by cases h) (fun _ => ?_)
  simp [hS, hL]
  refine mkN_h slTI (kl := .i64) (kc := .i64) (n := l.length) (xs := intsV (List.replicate l.length 0)) (Hp.ofMod M1) (by simp [hS, hL]) (by simp [hS, hL]) (by omega) (by unfold maxLen; omega) (fun z hz => by rw [zero64 hz, intsV_zeros]) ?_
  intro rv w2 H M2
  refine ⟨.inl rfl, ?_⟩
  obtain ⟨rS, rL⟩ := (H.rd 0 rfl).sl
  simp [oS, oL]
  refine for_r o.length (fun i env' w' => env' 0 = v ∧ env' 1 = u ∧ env' 6 = rv ∧ env' 7 = .int .i64 i ∧ Hp w w' [.own 3 1 rv l.length (intsV (layTo l o l.length i))]) ?_ ?_ ?_
  · simp [layTo]
    exact H
  · rintro i env w3 hi ⟨e0, e1, e6, e7, H⟩
    have wi : IntKind.i64.wrap ((i : Int) + 1) = ((i + 1 : Nat) : Int) := by rw [wI (by omega) (by omega)]; omega
    obtain ⟨k, hk', hkn⟩ := ok_gi hk i hi
    have hil : i < l.length := by omega
    have htl : layTo l o l.length (i + 1) = (layTo l o l.length i).set k (gi l i) := by rw [layTo, hk']; rfl
    have hpr := (H.rd 0 rfl).some (by rw [layTo_len]; omega)
    simp [e1, e7, oS, oL]
    refine ite_r (t := true) (by simp; omega) (fun _ => ?_) (fun h => by cases h)
    replace H := H.drew
    have oc := (ho.at H.mod).gi i hi
    have op := ho.some (by omega)
    have lc := (hl.at H.mod).gi i hil
    have lp := hl.some (by omega)
    rw [hk'] at oc
    simp only [cell_drew] at oc lc
    simp [wp_blk, e0, e1, e6, e7, hS, hL, oS, oL, rS, rL, hi, hil, op, oc, lp, lc, hkn, hpr]
    refine set_h 0 H rfl (i := k) (u := .int .i64 (gi l i)) hkn (by simp [e1, e6, e7, oS, oL, hi, op, oc, rS, rL, hkn, hpr]) (by simp [e0, e1, e7, hS, hL, oS, oL, hi, op, oc, lp, lc, hil]) (by simp) ?_
    intro w4 H
    refine ⟨.inl rfl, ?_⟩
    simp [-Int.natCast_add, e0, e1, e6, e7, wi]
    simp only [List.set_cons_zero] at H
    rw [intsV_put, ← htl] at H
    exact ⟨by omega, H⟩
  · rintro env w3 ⟨e0, e1, e6, e7, H⟩
    simp [e1, e7, oS, oL]
    refine ite_r (t := false) (by simp) (fun h => by cases h) (fun _ => ?_)
    simp [e6]
    refine ⟨rv, rfl, ?_⟩
    unfold OwnRow
    simp [layTo_len]
    exact H
end

end Go.Proofs.Ytbncppklmhfnmaa.VG
