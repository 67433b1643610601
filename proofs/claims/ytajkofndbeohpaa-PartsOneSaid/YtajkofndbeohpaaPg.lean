/-
  Parts: one part got from bits.
-/
import Derived.Test.YtajkofndbeohpaaPf
import Derived.Test.YtajkofndbeohpaaFr
namespace Go.Proofs.Ytajkofndbeohpaa.VG
open Go
set_option linter.unusedSimpArgs false
set_option linter.unusedVariables false

/-- So many signed numbers, one after another. -/
def sgTo (l : List Nat) (p : Nat) (e : Int) (wd : Int) : Nat → List Int × Nat × Int
  | 0 => ([], p, e)
  | i + 1 => ((sgTo l p e wd i).1 ++ [(rSigned l (sgTo l p e wd i).2.1 (sgTo l p e wd i).2.2 wd).1], (rSigned l (sgTo l p e wd i).2.1 (sgTo l p e wd i).2.2 wd).2)
theorem sgTo_len (l : List Nat) (p : Nat) (e : Int) (wd : Int) : ∀ i, (sgTo l p e wd i).1.length = i
  | 0 => rfl
  | i + 1 => by simp only [sgTo, List.length_append, sgTo_len l p e wd i]; rfl
def partQ (l : List Nat) (p : Nat) (k size : Int) : (List Int × Int) × Nat × Int :=
  if k ≠ 31 then (if paramB k = true then getS l p 0 k size else (([], 2), p, 0))
  else if (sgTo l (rGet l p 0 5).2.1 (rGet l p 0 5).2.2 (rGet l p 0 5).1 size.toNat).2.2 ≠ 0 then (([], (sgTo l (rGet l p 0 5).2.1 (rGet l p 0 5).2.2 (rGet l p 0 5).1 size.toNat).2.2), (sgTo l (rGet l p 0 5).2.1 (rGet l p 0 5).2.2 (rGet l p 0 5).1 size.toNat).2)
  else if widL (sgTo l (rGet l p 0 5).2.1 (rGet l p 0 5).2.2 (rGet l p 0 5).1 size.toNat).1 ≠ (rGet l p 0 5).1 then (([], 2), (sgTo l (rGet l p 0 5).2.1 (rGet l p 0 5).2.2 (rGet l p 0 5).1 size.toNat).2)
  else (((sgTo l (rGet l p 0 5).2.1 (rGet l p 0 5).2.2 (rGet l p 0 5).1 size.toNat).1, 0), (sgTo l (rGet l p 0 5).2.1 (rGet l p 0 5).2.2 (rGet l p 0 5).1 size.toNat).2)
def oneQ (l : List Nat) (p : Nat) (size : Int) : (List Int × Int) × Nat × Int :=
  if (rGet l p 0 5).2.2 ≠ 0 then (([], (rGet l p 0 5).2.2), (rGet l p 0 5).2) else partQ l (rGet l p 0 5).2.1 (rGet l p 0 5).1 size

/-- A row made and an error, the reader carried on. -/
def RowRd (w : World) (F : Nat → Prop) (b : Nat) (l : List Nat) (u : Value) (s : (List Int × Int) × Nat × Int) (w' : World) : Prop :=
  RrF w F b l s.2.1 s.2.2 w' ∧ ∃ Gs, Sep w.heap.size w' [.own 3 1 u s.1.1.length (intsV s.1.1)] Gs

set_option maxHeartbeats 2000000 in
theorem pone_c {w : World} {F : Nat → Prop} {b : Nat} {l : List Nat} {p : Nat} (h : Rr w F b l p 0) (size : Int) (hs0 : 0 ≤ size) (hs1 : size ≤ 4096) :
    Calls Try.prog 60 [.pointer (some ⟨b, 0, none⟩), .int .i64 size].toArray w (Ret fun r w' => ∃ k' u, r = .tuple #[.int .i64 k', u, .int .i64 (oneQ l p size).1.2] ∧ ((oneQ l p size).1.2 = 0 → k' = (rGet l p 0 5).1) ∧ RowRd w F b l u (oneQ l p size) w') := by
  refine F_sound c60 (by simp [fc60]) ?_
  have H := Hp.openR h
  have fin : ∀ {w' : World} {p e er}, Hp (bare w) w' [.rq F b l p e, .old w F] → RowRd w F b l (.slice none 0 0) (([], er), p, e) w' := fun H => H.nilS.shutR
  simp [fc60, s60]
  obtain ⟨hR, up⟩ := H.rqUp 0 rfl
  refine call_h (get_c hR 5) (by simp) ?_
  rintro r w1 ⟨rfl, A⟩
  replace H := up _ _ _ A
  have hk := rGet_lt l p 0 5
  rw [show ((5 : Nat) : Int) = 5 from rfl] at hk
  unfold oneQ
  generalize rGet l p 0 5 = g at *
  obtain ⟨k, p1, e1⟩ := g
  simp only at *
  obtain ⟨hR, up⟩ := H.rqUp 0 rfl
  have hwk : IntKind.i64.wrap (k : Int) = k := wI (by omega) (by omega)
  simp [hwk]
  refine callp (err_c hR) (by simp) ?_
  simp
  by_cases he : e1 ≠ 0
  · refine ite_r (t := true) (by simp [he]) (fun _ => ?_) (fun h => by cases h)
    refine callp (err_c hR) (by simp) ?_
    simp [he]
    exact ⟨_, _, ⟨rfl, rfl⟩, fin H⟩
  obtain rfl : e1 = 0 := by omega
  refine ite_r (t := false) (by simp) (fun h => by cases h) (fun _ => ?_)
  simp
  unfold partQ
  by_cases hk25 : k ≤ 25
  · have hp : paramB (k : Int) = true := paramB_iff.2 (by omega)
    have hk31 : ¬ ((k : Int) = 31) := by omega
    refine ite_r (t := true) (by simp; omega) (fun _ => ?_) (fun h => by cases h)
    refine call_h (rget_c hR k size) (by simp) ?_
    rintro r w2 ⟨⟨u, rfl, hu1, hu2⟩, A⟩
    have H2 := (H.rqF 0 rfl).2 _ _ _ _ (A.toF hR.me) (sep_own hu1 hu2)
    simp [hk31, hp]
    exact ⟨_, _, ⟨rfl, rfl⟩, fun _ => rfl, H2.shutR⟩
  refine ite_r (t := false) (by simp; omega) (fun h => by cases h) (fun _ => ?_)
  simp
  have hnp : paramB (k : Int) = false := by
    rcases Bool.eq_false_or_eq_true (paramB (k : Int)) with h | h
    · have := paramB_iff.1 h; omega
    · exact h
  by_cases hk31 : k = 31
  rotate_left
  · refine ite_r (t := true) (by simp; omega) (fun _ => ?_) (fun h => by cases h)
    have : ¬ ((k : Int) = 31) := by omega
    simp [this, hnp]
    exact ⟨_, _, ⟨rfl, rfl⟩, fin H⟩
  subst hk31
  refine ite_r (t := false) (by simp) (fun h => by cases h) (fun _ => ?_)
  refine call_h (get_c hR 5) (by simp) ?_
  rintro r w2 ⟨rfl, A⟩
  replace H := up _ _ _ A
  have hW := rGet_lt l p1 0 5
  rw [show ((5 : Nat) : Int) = 5 from rfl] at hW
  generalize rGet l p1 0 5 = g at *
  obtain ⟨W, p2, e2⟩ := g
  simp only at *
  have hwW : IntKind.i64.wrap (W : Int) = W := wI (by omega) (by omega)
  obtain ⟨N, rfl⟩ : ∃ N : Nat, size = N := ⟨size.toNat, by omega⟩
  simp [hwW]
  refine for_r N (fun i env' w' => env' 0 = .pointer (some ⟨b, 0, none⟩) ∧ env' 7 = .int .i64 31 ∧ env' 10 = .int .i64 W ∧ env' 37 = .int .i64 N ∧ env' 38 = .int .i64 i ∧
    Hp (bare w) w' [.rq F b l (sgTo l p2 e2 W i).2.1 (sgTo l p2 e2 W i).2.2, .old w F, .own 3 1 (env' 11) i (intsV (sgTo l p2 e2 W i).1)]) ?_ ?_ ?_
  · simp [sgTo]
    exact H.nilS
  · rintro i env w' hi ⟨f0, f7, f10, f37, f38, H⟩
    simp [f37, f38]
    refine ite_r (t := true) (by simp; omega) (fun _ => ?_) (fun h => by cases h)
    simp [wp_blk]
    obtain ⟨hR, up⟩ := H.rqUp 0 rfl
    have hst : sgTo l p2 e2 W (i + 1) = ((sgTo l p2 e2 W i).1 ++ [(rSigned l (sgTo l p2 e2 W i).2.1 (sgTo l p2 e2 W i).2.2 W).1], (rSigned l (sgTo l p2 e2 W i).2.1 (sgTo l p2 e2 W i).2.2 W).2) := rfl
    generalize sgTo l p2 e2 W i = st at *
    refine call_h (signed_c hR W (by omega) (by omega)) (by simp [f0, f10]) ?_
    rintro r w3 ⟨rfl, A⟩
    replace H := up _ _ _ A
    generalize rSigned l st.2.1 st.2.2 W = sr at *
    rw [hst]
    refine app1_h slTI 2 H rfl (u := .int .i64 sr.1) (by simp) (by omega) (by unfold maxLen; omega) (by simp) (by simp) (by simp) (by simp) ?_
    intro vb v' w4 w5 H
    refine ⟨.inl rfl, ?_⟩
    have hw1 : IntKind.i64.wrap ((i : Int) + 1) = ((i + 1 : Nat) : Int) := by rw [wI (by omega) (by omega)]; omega
    simp [-Int.natCast_add, hw1, f0, f7, f10, f37, f38]
    rw [intsV_snoc] at H
    exact ⟨by omega, H⟩
  · rintro env w' ⟨f0, f7, f10, f37, f38, H⟩
    simp [f37, f38]
    refine ite_r (t := false) (by simp) (fun h => by cases h) (fun _ => ?_)
    have hlen := sgTo_len l p2 e2 W N
    generalize sgTo l p2 e2 W N = st at *
    obtain ⟨sl, p3, e3⟩ := st
    simp only at *
    obtain ⟨hR, _⟩ := H.rqUp 0 rfl
    refine callp (err_c hR) (by simp [f0]) ?_
    simp
    by_cases he : e3 ≠ 0
    · refine ite_r (t := true) (by simp [he]) (fun _ => ?_) (fun h => by cases h)
      refine callp (err_c hR) (by simp [f0]) ?_
      simp [he]
      exact ⟨_, _, ⟨rfl, rfl⟩, fin (H.drop 2)⟩
    obtain rfl : e3 = 0 := by omega
    refine ite_r (t := false) (by simp) (fun h => by cases h) (fun _ => ?_)
    simp
    have hrd := H.rd 2 rfl
    rw [← hlen] at hrd
    refine callp (width_c' hrd (by omega)) (by simp) ?_
    simp [f10]
    by_cases hw : widL sl = W
    · refine ite_r (t := false) (by simp [hw]) (fun h => by cases h) (fun _ => ?_)
      simp [hw, f7]
      rw [← hlen] at H
      exact ⟨_, _, ⟨rfl, rfl⟩, rfl, H.shutR⟩
    · refine ite_r (t := true) (by simp; omega) (fun _ => ?_) (fun h => by cases h)
      simp [hw]
      exact ⟨_, _, ⟨rfl, rfl⟩, fin (H.drop 2)⟩

end Go.Proofs.Ytajkofndbeohpaa.VG
