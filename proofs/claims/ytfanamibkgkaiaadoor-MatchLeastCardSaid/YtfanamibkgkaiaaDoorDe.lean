/-
  Match: rows of tokens.
-/
import Derived.Test.YtfanamibkgkaiaaDoorDd
namespace Go.Proofs.YtfanamibkgkaiaaDoor.VG
open Go
set_option linter.unusedSimpArgs false
set_option linter.unusedVariables false
set_option maxRecDepth 20000

def copyN (L : List Int) (d : Nat) : Nat → List Int
  | 0 => L
  | k + 1 => copyN L d k ++ [gi (copyN L d k) ((copyN L d k).length - d)]
theorem copyN_len (L : List Int) (d : Nat) : ∀ k, (copyN L d k).length = L.length + k
  | 0 => rfl
  | k + 1 => by simp [copyN, copyN_len L d k]; omega
def growL (L : List Int) (t : Int × Int × Int) : List Int := if litB t = true then L ++ [t.2.2] else copyN L t.2.1.toNat t.1.toNat
theorem growL_len (L : List Int) (t : Int × Int × Int) : (growL L t).length = L.length + (if litB t = true then 1 else t.1.toNat) := by
  unfold growL
  split
  · simp
  · rw [copyN_len]
def OwnRow (w w' : World) (r : Value) (l : List Int) : Prop := Hp w w' [.own 3 1 r l.length (intsV l)]
def RowOk (w w' : World) (r : Value) (s : List Int × Bool) : Prop := ∃ u, r = .tuple #[u, .bool s.2] ∧ OwnRow w w' u s.1
theorem OwnRow.nil {w w' : World} (m : Mod none' w w') : OwnRow w w' (.slice none 0 0) [] := (Hp.ofMod m).nilS

set_option maxHeartbeats 4000000 in
theorem grow_c {F : Nat → Prop} {w : World} {v : Value} {L : List Int} (h : (It.own 3 1 v L.length (intsV L)).P w F) (hl : L.length ≤ 1000000) (t : Int × Int × Int) (ht : litB t = true ∨ (copyB t = true ∧ t.2.1 ≤ L.length)) :
    Calls Tryd.prog 32 [v, tokV t].toArray w (Ret fun r w' => Mod F w w' ∧ ∃ F', (It.own 3 1 r (growL L t).length (intsV (growL L t))).P w' F' ∧ ∀ k, F' k → F k ∨ w.heap.size ≤ k) := by
  refine F_sound c32 (by simp [fc32]) ?_
  have H := Hp.openG h
  simp [fc32, s32]
  refine box_h (tokV t) H (by simp) ?_
  intro b w1 H M1
  refine ⟨.inl rfl, ?_⟩
  replace H : Hp (bare w) w1 [.own 3 1 v L.length (intsV L), .old w F, .blk b #[.int .i64 t.1, .int .i64 t.2.1, .int .i64 t.2.2]] := H
  obtain ⟨d, dok, _⟩ := blk3 (H.blk 2 rfl)
  simp [d]
  refine ⟨dok, ?_⟩
  refine callm (isLit_c t) (by simp [tokV]) ?_
  intro w2 M2
  replace H := H.same M2
  obtain ⟨_, _, c0, c1, c2⟩ := blk3 (H.blk 2 rfl)
  cases hlit : litB t
  rotate_left
  · have hg : growL L t = L ++ [t.2.2] := by rw [growL, if_pos hlit]
    rw [hg]
    refine ite_r (t := true) (by simp) (fun _ => ?_) (fun h => by cases h)
    simp [c2]
    refine app1_h slTI 0 H rfl (u := .int .i64 t.2.2) (by simp) (by omega) (by unfold maxLen; omega) (by simp) (by simp) (by simp) (by simp) ?_
    intro vb v' w5 w6 H
    refine ⟨.inl rfl, ?_⟩
    simp only [List.set_cons_zero] at H
    rw [intsV_snoc] at H
    obtain ⟨hM, F', hF, hF'⟩ := H.shutW
    simp
    exact ⟨hM, F', by simpa using hF, hF'⟩
  · have hcp : copyB t = true ∧ t.2.1 ≤ L.length := by
      rcases ht with h | h
      · rw [hlit] at h; cases h
      · exact h
    obtain ⟨⟨⟨⟨h1, h2⟩, h3⟩, h4⟩, h5⟩ : (((3 ≤ t.1 ∧ t.1 ≤ 64) ∧ 1 ≤ t.2.1) ∧ t.2.1 ≤ 1024) ∧ t.2.2 = 0 := by simpa [copyB] using hcp.1
    obtain ⟨n, hn⟩ : ∃ n : Nat, t.1 = n := ⟨t.1.toNat, by omega⟩
    obtain ⟨D, hD⟩ : ∃ D : Nat, t.2.1 = D := ⟨t.2.1.toNat, by omega⟩
    have hg : growL L t = copyN L D n := by rw [growL, if_neg (by simp [hlit]), hn, hD, Int.toNat_natCast, Int.toNat_natCast]
    have hDL := hcp.2
    rw [hg]
    rw [hn] at c0
    refine ite_r (t := false) (by simp) (fun h => by cases h) (fun _ => ?_)
    simp [c0]
    refine for_r n (fun i env' w' => env' 3 = .pointer (some ⟨b, 0, none⟩) ∧ env' 13 = .int .i64 n ∧ env' 14 = .int .i64 i ∧ Hp (bare w) w' [.own 3 1 (env' 0) (L.length + i) (intsV (copyN L D i)), .old w F, .blk b #[.int .i64 t.1, .int .i64 t.2.1, .int .i64 t.2.2]]) ?_ ?_ ?_
    · simp [copyN]
      exact H
    · clear H
      rintro i env w3 hi ⟨e3, e13, e14, H⟩
      have wi : IntKind.i64.wrap ((i : Int) + 1) = ((i + 1 : Nat) : Int) := by rw [wI (by omega) (by omega)]; omega
      obtain ⟨_, _, c0, c1, c2⟩ := blk3 (H.blk 2 rfl)
      have hcl := copyN_len L D i
      obtain ⟨z, hz⟩ : ∃ z, z = L.length + i - D := ⟨_, rfl⟩
      have wz : IntKind.i64.wrap (((L.length + i : Nat) : Int) - D) = (z : Int) := by rw [wI (by omega) (by omega)]; omega
      have hzc : z < (copyN L D i).length := by omega
      have hr := H.rd 0 rfl
      obtain ⟨rS, rL⟩ := hr.sl
      have rp := hr.some (by omega)
      have rc := hr.gi z hzc
      have hstep : copyN L D (i + 1) = copyN L D i ++ [gi (copyN L D i) z] := by rw [copyN, hcl, hz]
      rw [hD] at c1
      generalize hrv : env 0 = rv at *
      have hzl : z < L.length + i := by omega
      simp [e13, e14]
      refine ite_r (t := true) (by simp; omega) (fun _ => ?_) (fun h => by cases h)
      simp [-Int.natCast_add, wp_blk, e3, hrv, c1, rS, rL, wz, hzl, rp, rc]
      refine app1_h slTI 0 H rfl (u := .int .i64 (gi (copyN L D i) z)) (by simp) (by omega) (by unfold maxLen; omega) (by simp) (by simp [hrv]) (by simp) (by simp) ?_
      intro vb v' w5 w6 H
      refine ⟨.inl rfl, ?_⟩
      simp [-Int.natCast_add, e3, e13, e14, wi]
      simp only [List.set_cons_zero] at H
      rw [intsV_snoc, ← hstep] at H
      refine ⟨by omega, H⟩
    · clear H
      rintro env w3 ⟨e3, e13, e14, H⟩
      obtain ⟨hM, F', hF, hF'⟩ := H.shutW
      simp [e13, e14]
      refine ite_r (t := false) (by simp) (fun h => by cases h) (fun _ => ?_)
      simp
      rw [copyN_len]
      exact ⟨hM, F', hF, hF'⟩

def expTo (T : List (Int × Int × Int)) (most : Int) : Nat → Option (List Int)
  | 0 => some []
  | i + 1 => match expTo T most i, T[i]? with
    | some L, some t => if most - L.length < max t.1 1 ∨ (L.length : Int) < t.2.1 then none else some (growL L t)
    | _, _ => none
def expR (T : List (Int × Int × Int)) (most : Int) : List Int × Bool :=
  if mayT T = false ∨ most < 0 then ([], false) else match expTo T most T.length with
    | some L => (L, true)
    | none => ([], false)
theorem expTo_none {T : List (Int × Int × Int)} {most : Int} {i : Nat} (h : expTo T most i = none) : ∀ j, i ≤ j → expTo T most j = none
  | 0, hj => by
    have e : i = 0 := by omega
    subst e
    exact h
  | j + 1, hj => by
    by_cases e : i = j + 1
    · subst e; exact h
    · rw [expTo, expTo_none h j (by omega)]

set_option maxHeartbeats 4000000 in
theorem expand_c {G : Nat → Prop} {w : World} {v : Value} {T : List (Int × Int × Int)} (h : Rd G w v T.length (toksV T)) (hl : T.length ≤ 1000000) (most : Int) (hmost : most ≤ 900000) :
    Calls Tryd.prog 18 [v, .int .i64 most].toArray w (Ret fun r w' => RowOk w w' r (expR T most)) := by
  refine F_sound c18 (by simp [fc18]) ?_
  obtain ⟨hS, hL⟩ := h.sl
  obtain ⟨i3, hi3, hz3⟩ := info47
  simp [fc18, s18, hS, hL]
  refine callm (may_c h hl) (by simp) ?_
  intro w1 M1
  cases hmay : mayT T
  · have hv : expR T most = ([], false) := by rw [expR, if_pos (.inl hmay)]
    rw [hv]
    simp
    refine ite_r (t := true) (by simp) (fun _ => ?_) (fun h => by cases h)
    simp
    exact ⟨_, rfl, OwnRow.nil M1⟩
  by_cases hneg : most < 0
  · have hv : expR T most = ([], false) := by rw [expR, if_pos (.inr hneg)]
    rw [hv]
    simp
    refine ite_r (t := true) (by simp [hneg]) (fun _ => ?_) (fun h => by cases h)
    simp
    exact ⟨_, rfl, OwnRow.nil M1⟩
  have hv : expR T most = match expTo T most T.length with | some L => (L, true) | none => ([], false) := by rw [expR, if_neg (by simp [hmay, hneg])]
  rw [hv]
  simp
  refine ite_r (t := false) (by simp [hneg]) (fun h => by cases h) (fun _ => ?_)
  simp [hS, hL]
  have H := (Hp.ofMod M1).nilS (e := 3) (size := 1)
  refine for_r T.length (fun i env' w' => env' 1 = .int .i64 most ∧ env' 16 = v ∧ env' 17 = .int .i64 T.length ∧ env' 18 = .int .i64 i ∧ ∃ L, expTo T most i = some L ∧ (L.length : Int) ≤ most ∧ OwnRow w w' (env' 6) L) ?_ ?_ ?_
  · simp
    exact ⟨[], rfl, by simp; omega, H⟩
  · clear H M1
    rintro i env w2 hi ⟨e1, e16, e17, e18, L, hL', hLm, H⟩
    have wi : IntKind.i64.wrap ((i : Int) + 1) = ((i + 1 : Nat) : Int) := by rw [wI (by omega) (by omega)]; omega
    obtain ⟨t, ht⟩ : ∃ t, T[i]? = some t := ⟨T[i], List.getElem?_eq_getElem hi⟩
    have htm : litB t = true ∨ copyB t = true := by
      rw [mayT, List.all_eq_true] at hmay
      simpa using hmay t (List.mem_of_getElem? ht)
    have htb : 0 ≤ t.1 ∧ t.1 ≤ 64 ∧ 0 ≤ t.2.1 ∧ t.2.1 ≤ 1024 := by
      rcases htm with h | h
      · have : t.1 = 0 ∧ t.2.1 = 0 := by simpa [litB] using h
        omega
      · have : (((3 ≤ t.1 ∧ t.1 ≤ 64) ∧ 1 ≤ t.2.1) ∧ t.2.1 ≤ 1024) ∧ t.2.2 = 0 := by simpa [copyB] using h
        omega
    have ta := tok_at (h.at H.mod) ht
    have tp := tok_ptr h (by omega)
    have hstep : expTo T most (i + 1) = if most - L.length < max t.1 1 ∨ (L.length : Int) < t.2.1 then none else some (growL L t) := by rw [expTo, hL', ht]
    obtain ⟨rS, rL⟩ := (H.rd 0 rfl).sl
    have wm : IntKind.i64.wrap (most - (L.length : Int)) = most - L.length := wI (by omega) (by omega)
    simp [e17, e18]
    refine ite_r (t := true) (by simp; omega) (fun _ => ?_) (fun h => by cases h)
    simp [wp_blk, e16, e18, hS, hL, hi, tp, ta.cs]
    refine ⟨ta.ok, ?_⟩
    unfold OwnRow at H
    refine alloc_h H hi3 hz3 ?_
    intro b w3 H M3
    refine ⟨.inl rfl, ?_⟩
    refine stAll_h 1 H rfl (v := tokV t) rfl (by simp [tokC, tokV]) rfl rfl (tokC_one t) ?_
    intro w4 H
    refine ⟨.inl rfl, ?_⟩
    replace H : Hp w w4 [.own 3 1 (env 6) L.length (intsV L), .blk b #[.int .i64 t.1, .int .i64 t.2.1, .int .i64 t.2.2]] := H
    obtain ⟨d, dok, c0, c1, c2⟩ := blk3 (H.blk 1 rfl)
    have hmx : (if t.1 < 1 then 1 else t.1) = max t.1 1 := by split <;> omega
    generalize hrv : env 6 = rv at *
    by_cases hbad : most - L.length < max t.1 1 ∨ (L.length : Int) < t.2.1
    · rw [if_pos hbad] at hstep
      have hnone := expTo_none hstep T.length (by omega)
      rw [hnone]
      simp [e1, hrv, rS, rL, c0, c1, wm]
      refine ite_r (t := true) (by simp; omega) (fun _ => ?_) (fun h => by cases h)
      simp
      exact ⟨_, rfl, OwnRow.nil H.mod⟩
    · rw [if_neg hbad] at hstep
      simp [e1, hrv, rS, rL, c0, c1, wm]
      refine ite_r (t := false) (by simp; omega) (fun h => by cases h) (fun _ => ?_)
      simp [d]
      refine ⟨dok, ?_⟩
      obtain ⟨F, hP, hF, hu⟩ := H.upd 0 rfl
      refine call_h (grow_c hP (by omega) t (htm.imp id fun h => ⟨h, by omega⟩)) (by simp [hrv, tokV]) ?_
      rintro r w5 ⟨hM, F', hP', hF'⟩
      replace H := hu _ w5 F' hM hP' hF'
      replace H : Hp w w5 [.own 3 1 r (growL L t).length (intsV (growL L t))] := H.drop 1
      have hgl := growL_len L t
      have hgb : ((growL L t).length : Int) ≤ most := by
        rw [hgl]
        split
        · omega
        · omega
      simp [-Int.natCast_add, e1, e16, e17, e18, wi]
      exact ⟨by omega, growL L t, hstep, hgb, H⟩
  · clear H M1
    rintro env w2 ⟨e1, e16, e17, e18, L, hL', hLm, H⟩
    rw [hL']
    simp [e17, e18]
    refine ite_r (t := false) (by simp) (fun h => by cases h) (fun _ => ?_)
    simp
    exact ⟨_, rfl, H⟩

end Go.Proofs.YtfanamibkgkaiaaDoor.VG
