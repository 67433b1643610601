/-
  Scan: the passes of the document.
-/
import Derived.Test.YtbncppklmhfnmaaNe
namespace Go.Proofs.Ytbncppklmhfnmaa.VG
open Go
set_option linter.unusedSimpArgs false
set_option linter.unusedVariables false
set_option maxRecDepth 20000

theorem blk4 {w : World} {t : Nat} {a b c d : Value} (h : ∀ o, w.cell? ⟨t, o, none⟩ = (#[a, b, c, d] : Array Value)[o]?) : w.cell? ⟨t, 0, none⟩ = some a ∧ w.cell? ⟨t, 1, none⟩ = some b ∧ w.cell? ⟨t, 2, none⟩ = some c ∧ w.cell? ⟨t, 3, none⟩ = some d :=
  ⟨by rw [h 0]; rfl, by rw [h 1]; rfl, by rw [h 2]; rfl, by rw [h 3]; rfl⟩
def passV (i : Nat) : Array Value := #[.int .i64 (pA i), .int .i64 (pB i), .int .i64 (pC i), .int .i64 (pD i)]
set_option maxHeartbeats 2000000 in
theorem pass_c {w : World} {i : Nat} (hi : i < 7) : Calls Try.prog 31 [.int .i64 i].toArray w (Ret fun r w' => r = .tuple (passV i) ∧ Mod none' w w') := by
  refine F_sound c31 (by simp [fc31]) ?_
  simp [fc31, s31, putAt, Value.cells]
  refine ⟨by omega, ?_⟩
  obtain ⟨i4, hi4, hz4⟩ : ∃ i, Try.prog.info? 45 = some i ∧ i.zero = some (.agg #[.int .i64 0, .int .i64 0, .int .i64 0, .int .i64 0]) := ⟨_, rfl, rfl⟩
  refine alloc_h (Hp.nil w) hi4 hz4 ?_
  intro b w1 H M1
  refine ⟨.inl rfl, ?_⟩
  refine stAll_h 0 H rfl (v := .agg (passV i)) rfl ?_ rfl rfl (by simp [Value.cells, passV]) ?_
  · obtain rfl | rfl | rfl | rfl | rfl | rfl | rfl : i = 0 ∨ i = 1 ∨ i = 2 ∨ i = 3 ∨ i = 4 ∨ i = 5 ∨ i = 6 := by omega
    all_goals kernel_rfl
  intro w2 H
  refine ⟨.inl rfl, ?_⟩
  obtain ⟨c0, c1, c2, c3⟩ := blk4 (H.drew.blk 0 rfl)
  simp only [cell_drew] at c0 c1 c2 c3
  simp [c0, c1, c2, c3]
  exact ⟨rfl, H.mod.drew⟩

def rowsI : List Value → List (List Int) → List It
  | v :: vs, l :: ls => .own 3 1 v l.length (intsV l) :: rowsI vs ls
  | _, _ => []
theorem rowsI_snoc {v : Value} {l : List Int} : ∀ {vs : List Value} {ls : List (List Int)}, vs.length = ls.length → rowsI vs ls ++ [.own 3 1 v l.length (intsV l)] = rowsI (vs ++ [v]) (ls ++ [l])
  | [], [], _ => rfl
  | _ :: vs, _ :: ls, h => by
    simp only [rowsI, List.cons_append]
    rw [rowsI_snoc (by simpa using h)]
  | [], _ :: _, h => by simp at h
  | _ :: _, [], h => by simp at h
theorem rowsI_get : ∀ {vs : List Value} {ls : List (List Int)} {i : Nat} {v : Value} {l : List Int}, vs[i]? = some v → ls[i]? = some l → (rowsI vs ls)[i]? = some (.own 3 1 v l.length (intsV l))
  | [], _, _, _, _, h, _ => by simp at h
  | _ :: _, [], _, _, _, _, h => by simp at h
  | v :: vs, l :: ls, 0, _, _, h, k => by
    simp only [List.getElem?_cons_zero, Option.some.injEq] at h k
    subst h; subst k; rfl
  | v :: vs, l :: ls, i + 1, _, _, h, k => by
    simp only [List.getElem?_cons_succ] at h k
    simp only [rowsI, List.getElem?_cons_succ]
    exact rowsI_get h k
/-- Rows of rows, each over blocks of its own. -/
def OwnRows (w w' : World) (r : Value) (ls : List (List Int)) : Prop := ∃ vs, vs.length = ls.length ∧ Hp w w' (.own 24 1 r ls.length vs :: rowsI vs ls)
theorem slTR : SlT Try.prog 27 24 1 24 := ⟨by kernel_rfl, ⟨_, _, rfl, rfl, rfl, rfl, rfl⟩, by omega⟩
theorem own_slice {W w : World} {l : List It} {j : Nat} {e : TypeId} {n : Nat} {v : Value} {xs : List Value} (h : Hp W w l) (hj : l[j]? = some (.own e 1 v n xs)) : one1 v = true := by
  obtain ⟨cap, hv⟩ := (h.rd j hj).is
  rw [hv]; rfl
def passR (W n : Nat) : Nat → List (List Int)
  | 0 => []
  | k + 1 => passR W n k ++ [passL k W n]
theorem passR_len (W n : Nat) : ∀ k, (passR W n k).length = k
  | 0 => rfl
  | k + 1 => by simp [passR, passR_len W n k]
theorem passL_len (i W n : Nat) : (passL i W n).length ≤ n := pik_len _ _ n
def passLt (i W : Nat) (n k : Nat) : List Int := pik (passP i W) (fun n => n) k

def passRI (wd h : Int) : List (List Int) := if mayB wd h = true then passR wd.toNat (wd.toNat * h.toNat) 7 else []
theorem OwnRows.nil {w w' : World} (m : Mod none' w w') : OwnRows w w' (.slice none 0 0) [] := ⟨[], rfl, (Hp.ofMod m).nilS⟩

set_option maxHeartbeats 4000000 in
theorem scanPasses_c {w : World} (wd h : Int) : Calls Try.prog 14 [.int .i64 wd, .int .i64 h].toArray w (Ret fun r w' => OwnRows w w' r (passRI wd h)) := by
  refine F_sound c14 (by simp [fc14]) ?_
  simp [fc14, s14]
  refine callp (side2_c wd) (by simp) ?_
  by_cases hwb : 1 ≤ wd ∧ wd ≤ 64
  rotate_left
  · have hw1 : (decide (1 ≤ wd) && decide (wd ≤ 64)) = false := by simp; omega
    have hsz : passRI wd h = [] := by simp [passRI, mayB, hw1]
    rw [hw1, hsz]
    simp
    refine ifg_r (t := true) (by simp) (fun h => by cases h) (fun _ => ?_)
    simp
    refine ite_r (t := true) (by simp) (fun _ => ?_) (fun h => by cases h)
    simp
    exact OwnRows.nil (Mod.refl _ _)
  have hw1 : (decide (1 ≤ wd) && decide (wd ≤ 64)) = true := by simp; omega
  rw [hw1]
  simp
  refine ifg_r (t := false) (by simp) (fun _ => ?_) (fun h => (h rfl).elim)
  refine callp (side2_c h) (by simp) ?_
  by_cases hhb : 1 ≤ h ∧ h ≤ 64
  rotate_left
  · have hh1 : (decide (1 ≤ h) && decide (h ≤ 64)) = false := by simp; omega
    have hsz : passRI wd h = [] := by simp [passRI, mayB, hh1, Bool.and_assoc]
    rw [hh1, hsz]
    simp
    refine ite_r (t := true) (by simp) (fun _ => ?_) (fun h => by cases h)
    simp
    exact OwnRows.nil (Mod.refl _ _)
  have hh1 : (decide (1 ≤ h) && decide (h ≤ 64)) = true := by simp; omega
  obtain ⟨W, rfl⟩ : ∃ W : Nat, wd = W := ⟨wd.toNat, by omega⟩
  obtain ⟨H', rfl⟩ : ∃ H' : Nat, h = H' := ⟨h.toNat, by omega⟩
  have hsz : passRI (W : Int) (H' : Int) = passR W (W * H') 7 := by rw [passRI, if_pos (mayB_iff.2 ⟨hwb, hhb⟩)]; rfl
  have hW : 1 ≤ W ∧ W ≤ 64 := by omega
  have hH : 1 ≤ H' ∧ H' ≤ 64 := by omega
  have hWH : W * H' ≤ 64 * 64 := Nat.mul_le_mul hW.2 hH.2
  have eWH : (W : Int) * (H' : Int) = ((W * H' : Nat) : Int) := by rw [Int.natCast_mul]
  rw [hh1, hsz]
  obtain ⟨N, hN⟩ : ∃ N, N = W * H' := ⟨_, rfl⟩
  rw [← hN] at hWH eWH ⊢
  have wN : IntKind.i64.wrap (N : Int) = (N : Int) := wI (by omega) (by omega)
  simp
  refine ite_r (t := false) (by simp) (fun h => by cases h) (fun _ => ?_)
  simp
  have H : Hp w w [.own 24 1 (.slice none 0 0) 0 []] := (Hp.nil w).nilS
  refine for_r 7 (fun i env' w' => env' 0 = .int .i64 W ∧ env' 1 = .int .i64 H' ∧ env' 6 = .int .i64 i ∧ OwnRows w w' (env' 5) (passR W N i)) ?_ ?_ ?_
  · simp
    exact ⟨[], rfl, H⟩
  · rintro i env w1 hi ⟨e0, e1, e6, vs, hvs, H⟩
    have wi : IntKind.i64.wrap ((i : Int) + 1) = ((i + 1 : Nat) : Int) := by rw [wI (by omega) (by omega)]; omega
    generalize hqv : env 5 = qv at *
    simp [e6]
    refine ite_r (t := true) (by simp; omega) (fun _ => ?_) (fun h => by cases h)
    simp [wp_blk]
    refine callm (pass_c hi) (by simp [e6]) ?_
    intro w2 M2
    replace H := H.same M2
    simp [passV]
    have H1 := (Hp.nil w2).nilS (e := 3) (size := 1)
    obtain ⟨hA, hC, hb1, hb2, hb3, hb4⟩ := pAC i hi
    have hpp : ∀ at', passP i W at' = (decide (at' % W % pA i = pB i) && decide (at' / W % pC i = pD i)) := fun _ => rfl
    have hA0 : 0 < pA i := by omega
    have hC0 : 0 < pC i := by omega
    generalize pA i = A at *
    generalize pB i = B at *
    generalize pC i = C at *
    generalize pD i = D at *
    refine for_r N (fun k env' w' => env' 0 = .int .i64 W ∧ env' 1 = .int .i64 H' ∧ env' 5 = qv ∧ env' 6 = .int .i64 i ∧ env' 7 = .int .i64 A ∧ env' 8 = .int .i64 B ∧ env' 9 = .int .i64 C ∧ env' 10 = .int .i64 D ∧ env' 12 = .int .i64 k ∧ OwnRow w2 w' (env' 11) (passL i W k)) ?_ ?_ ?_
    · simp [e0, e1, e6, hqv]
      exact H1
    · rintro k env w3 hk ⟨e0, e1, e5, e6, e7, e8, e9, e10, e12, H1⟩
      have wk : IntKind.i64.wrap ((k : Int) + 1) = ((k + 1 : Nat) : Int) := by rw [wI (by omega) (by omega)]; omega
      have hlen := passL_len i W k
      have hm := Nat.mod_lt k hW.1
      have hd : k / W < H' := Nat.div_lt_of_lt_mul (by omega)
      have t1 : (k : Int).tmod (W : Int) = ((k % W : Nat) : Int) := rfl
      have t2 : (k : Int).tdiv (W : Int) = ((k / W : Nat) : Int) := rfl
      have hp := hpp k
      generalize hqx : k % W = qx at *
      generalize hqy : k / W = qy at *
      have t3 : (qx : Int).tmod (A : Int) = ((qx % A : Nat) : Int) := rfl
      have t4 : (qy : Int).tmod (C : Int) = ((qy % C : Nat) : Int) := rfl
      have w2' : IntKind.i64.wrap (qy : Int) = (qy : Int) := wI (by omega) (by omega)
      generalize qx % A = rx at *
      generalize qy % C = ry at *
      generalize hrv : env 11 = rv at *
      simp [e0, e1, e12, eWH, wN]
      refine ite_r (t := true) (by simp; omega) (fun _ => ?_) (fun h => by cases h)
      simp [wp_blk, e0, e7, e8, e9, e10, e12, t1, t2, t3, t4, w2']
      refine ⟨by omega, by omega, fun _ => by omega, fun _ => by omega, ?_⟩
      refine ite_cut (fun env' w' => env' 0 = .int .i64 W ∧ env' 1 = .int .i64 H' ∧ env' 5 = qv ∧ env' 6 = .int .i64 i ∧ env' 7 = .int .i64 A ∧ env' 8 = .int .i64 B ∧ env' 9 = .int .i64 C ∧ env' 10 = .int .i64 D ∧ env' 12 = .int .i64 k ∧ OwnRow w2 w' (env' 11) (passL i W (k + 1))) (t := passP i W k) ?_ ?_ ?_ ?_
      · rw [hp]
        simp
        by_cases h1 : rx = B <;> by_cases h2 : ry = D <;> simp [h1, h2] <;> omega
      · intro ht
        have hd : passL i W (k + 1) = passL i W k ++ [((k : Nat) : Int)] := pik_yes ht
        unfold OwnRow at H1
        refine app1_h slTI 0 H1 rfl (u := .int .i64 (k : Int)) (by simp) (by omega) (by unfold maxLen; omega) (by simp [e12]) (by simp [hrv]) (by simp) (by simp) ?_
        intro vb v' w5 w6 H
        refine ⟨.inl rfl, ?_⟩
        simp [e0, e1, e5, e6, e7, e8, e9, e10, e12]
        simp only [List.set_cons_zero] at H
        rw [intsV_snoc, ← hd] at H
        unfold OwnRow
        rw [hd] at H ⊢
        simpa using H
      · intro ht
        have hd : passL i W (k + 1) = passL i W k := pik_no ht
        simp [e0, e1, e5, e6, e7, e8, e9, e10, e12, hrv, hd]
        exact H1
      · rintro env w4 ⟨e0, e1, e5, e6, e7, e8, e9, e10, e12, H1⟩
        simp [e0, e1, e5, e6, e7, e8, e9, e10, e12, wk, -Int.natCast_add]
        exact ⟨by omega, H1⟩
    · rintro env w3 ⟨e0, e1, e5, e6, e7, e8, e9, e10, e12, H1⟩
      simp [e0, e1, e12, eWH, wN]
      refine ite_r (t := false) (by simp) (fun h => by cases h) (fun _ => ?_)
      have hlen := passR_len W N i
      have H2 := H.join H1
      have ho := own_slice (j := 0) H1 rfl
      simp
      have hvl : vs.length = i := by rw [hvs, hlen]
      refine app1_h slTR 0 H2 rfl (u := env 11) ho (by omega) (by unfold maxLen; omega) (by simp) (by simp [e5]) (by simp) (by simp) ?_
      intro vb v' w5 w6 H
      refine ⟨.inl rfl, ?_⟩
      simp [-Int.natCast_add, wi, e0, e1, e6]
      simp only [List.cons_append, List.set_cons_zero] at H
      rw [rowsI_snoc hvs] at H
      refine ⟨by omega, vs ++ [env 11], by simp [passR, hvs], ?_⟩
      have e : (passR W N (i + 1)).length = (passR W N i).length + 1 := by simp [passR]
      rw [e]
      exact H
  · rintro env w1 ⟨e0, e1, e6, H⟩
    simp [e6]
    refine ite_r (t := false) (by simp) (fun h => by cases h) (fun _ => ?_)
    simp
    exact H

end Go.Proofs.Ytbncppklmhfnmaa.VG
