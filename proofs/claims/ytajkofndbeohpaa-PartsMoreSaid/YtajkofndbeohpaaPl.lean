/-
  Parts: one part got from bits (and what goes with it: parts Pg Ph Pi Pj Pk Pl).
-/
import Derived.Test.YtajkofndbeohpaaPf
import Derived.Test.YtajkofndbeohpaaFr

/-! ## Parts: one part got from bits. -/
namespace Go.Proofs.Ytajkofndbeohpaa.VG
open Go
set_option linter.unusedSimpArgs false
set_option linter.unusedVariables false

/-- So many signed numbers, one after another. -/
def sgTo (l : List Nat) (p : Nat) (e : Int) (wd : Int) : Nat → List Int × Nat × Int
  | 0 => ([], p, e)
  | i + 1 => ((sgTo l p e wd i).1 ++ [(rSigned l (sgTo l p e wd i).2.1 (sgTo l p e wd i).2.2 wd).1], (rSigned l (sgTo l p e wd i).2.1 (sgTo l p e wd i).2.2 wd).2)
theorem sgTo_len (l : List Nat) (p : Nat) (e : Int) (wd : Int) : ∀ i, (sgTo l p e wd i).1.length = i
  | 0 => rfl
  | i + 1 => by simp only [sgTo, List.length_append, sgTo_len l p e wd i]; rfl
def partQ (l : List Nat) (p : Nat) (k size : Int) : (List Int × Int) × Nat × Int :=
  if k ≠ 31 then (if paramB k = true then getS l p 0 k size else (([], 2), p, 0))
  else if (sgTo l (rGet l p 0 5).2.1 (rGet l p 0 5).2.2 (rGet l p 0 5).1 size.toNat).2.2 ≠ 0 then (([], (sgTo l (rGet l p 0 5).2.1 (rGet l p 0 5).2.2 (rGet l p 0 5).1 size.toNat).2.2), (sgTo l (rGet l p 0 5).2.1 (rGet l p 0 5).2.2 (rGet l p 0 5).1 size.toNat).2)
  else if widL (sgTo l (rGet l p 0 5).2.1 (rGet l p 0 5).2.2 (rGet l p 0 5).1 size.toNat).1 ≠ (rGet l p 0 5).1 then (([], 2), (sgTo l (rGet l p 0 5).2.1 (rGet l p 0 5).2.2 (rGet l p 0 5).1 size.toNat).2)
  else (((sgTo l (rGet l p 0 5).2.1 (rGet l p 0 5).2.2 (rGet l p 0 5).1 size.toNat).1, 0), (sgTo l (rGet l p 0 5).2.1 (rGet l p 0 5).2.2 (rGet l p 0 5).1 size.toNat).2)
def oneQ (l : List Nat) (p : Nat) (size : Int) : (List Int × Int) × Nat × Int :=
  if (rGet l p 0 5).2.2 ≠ 0 then (([], (rGet l p 0 5).2.2), (rGet l p 0 5).2) else partQ l (rGet l p 0 5).2.1 (rGet l p 0 5).1 size

/-- A row made and an error, the reader carried on. -/
def RowRd (w : World) (F : Nat → Prop) (b : Nat) (l : List Nat) (u : Value) (s : (List Int × Int) × Nat × Int) (w' : World) : Prop :=
  RrF w F b l s.2.1 s.2.2 w' ∧ ∃ Gs, Sep w.heap.size w' [.own 3 1 u s.1.1.length (intsV s.1.1)] Gs

set_option maxHeartbeats 2000000 in
theorem pone_c {w : World} {F : Nat → Prop} {b : Nat} {l : List Nat} {p : Nat} (h : Rr w F b l p 0) (size : Int) (hs0 : 0 ≤ size) (hs1 : size ≤ 4096) :
    Calls Try.prog 60 [.pointer (some ⟨b, 0, none⟩), .int .i64 size].toArray w (Ret fun r w' => ∃ k' u, r = .tuple #[.int .i64 k', u, .int .i64 (oneQ l p size).1.2] ∧ ((oneQ l p size).1.2 = 0 → k' = (rGet l p 0 5).1) ∧ RowRd w F b l u (oneQ l p size) w') := by
  refine F_sound c60 (by simp [fc60]) ?_
  have H := Hp.openR h
  have fin : ∀ {w' : World} {p e er}, Hp (bare w) w' [.rq F b l p e, .old w F] → RowRd w F b l (.slice none 0 0) (([], er), p, e) w' := fun H => H.nilS.shutR
  simp [fc60, s60]
  obtain ⟨hR, up⟩ := H.rqUp 0 rfl
  refine call_h (get_c hR 5) (by simp) ?_
  rintro r w1 ⟨rfl, A⟩
  replace H := up _ _ _ A
  have hk := rGet_lt l p 0 5
  rw [show ((5 : Nat) : Int) = 5 from rfl] at hk
  unfold oneQ
  generalize rGet l p 0 5 = g at *
  obtain ⟨k, p1, e1⟩ := g
  simp only at *
  obtain ⟨hR, up⟩ := H.rqUp 0 rfl
  have hwk : IntKind.i64.wrap (k : Int) = k := wI (by omega) (by omega)
  simp [hwk]
  refine callp (err_c hR) (by simp) ?_
  simp
  by_cases he : e1 ≠ 0
  · refine ite_r (t := true) (by simp [he]) (fun _ => ?_) (fun h => by cases h)
    refine callp (err_c hR) (by simp) ?_
    simp [he]
    exact ⟨_, _, ⟨rfl, rfl⟩, fin H⟩
  obtain rfl : e1 = 0 := by omega
  refine ite_r (t := false) (by simp) (fun h => by cases h) (fun _ => ?_)
  simp
  unfold partQ
  by_cases hk25 : k ≤ 25
  · have hp : paramB (k : Int) = true := paramB_iff.2 (by omega)
    have hk31 : ¬ ((k : Int) = 31) := by omega
    refine ite_r (t := true) (by simp; omega) (fun _ => ?_) (fun h => by cases h)
    refine call_h (rget_c hR k size) (by simp) ?_
    rintro r w2 ⟨⟨u, rfl, hu1, hu2⟩, A⟩
    have H2 := (H.rqF 0 rfl).2 _ _ _ _ (A.toF hR.me) (sep_own hu1 hu2)
    simp [hk31, hp]
    exact ⟨_, _, ⟨rfl, rfl⟩, fun _ => rfl, H2.shutR⟩
  refine ite_r (t := false) (by simp; omega) (fun h => by cases h) (fun _ => ?_)
  simp
  have hnp : paramB (k : Int) = false := by
    rcases Bool.eq_false_or_eq_true (paramB (k : Int)) with h | h
    · have := paramB_iff.1 h; omega
    · exact h
  by_cases hk31 : k = 31
  rotate_left
  · refine ite_r (t := true) (by simp; omega) (fun _ => ?_) (fun h => by cases h)
    have : ¬ ((k : Int) = 31) := by omega
    simp [this, hnp]
    exact ⟨_, _, ⟨rfl, rfl⟩, fin H⟩
  subst hk31
  refine ite_r (t := false) (by simp) (fun h => by cases h) (fun _ => ?_)
  refine call_h (get_c hR 5) (by simp) ?_
  rintro r w2 ⟨rfl, A⟩
  replace H := up _ _ _ A
  have hW := rGet_lt l p1 0 5
  rw [show ((5 : Nat) : Int) = 5 from rfl] at hW
  generalize rGet l p1 0 5 = g at *
  obtain ⟨W, p2, e2⟩ := g
  simp only at *
  have hwW : IntKind.i64.wrap (W : Int) = W := wI (by omega) (by omega)
  obtain ⟨N, rfl⟩ : ∃ N : Nat, size = N := ⟨size.toNat, by omega⟩
  simp [hwW]
  refine for_r N (fun i env' w' => env' 0 = .pointer (some ⟨b, 0, none⟩) ∧ env' 7 = .int .i64 31 ∧ env' 10 = .int .i64 W ∧ env' 37 = .int .i64 N ∧ env' 38 = .int .i64 i ∧
    Hp (bare w) w' [.rq F b l (sgTo l p2 e2 W i).2.1 (sgTo l p2 e2 W i).2.2, .old w F, .own 3 1 (env' 11) i (intsV (sgTo l p2 e2 W i).1)]) ?_ ?_ ?_
  · simp [sgTo]
    exact H.nilS
  · rintro i env w' hi ⟨f0, f7, f10, f37, f38, H⟩
    simp [f37, f38]
    refine ite_r (t := true) (by simp; omega) (fun _ => ?_) (fun h => by cases h)
    simp [wp_blk]
    obtain ⟨hR, up⟩ := H.rqUp 0 rfl
    have hst : sgTo l p2 e2 W (i + 1) = ((sgTo l p2 e2 W i).1 ++ [(rSigned l (sgTo l p2 e2 W i).2.1 (sgTo l p2 e2 W i).2.2 W).1], (rSigned l (sgTo l p2 e2 W i).2.1 (sgTo l p2 e2 W i).2.2 W).2) := rfl
    generalize sgTo l p2 e2 W i = st at *
    refine call_h (signed_c hR W (by omega) (by omega)) (by simp [f0, f10]) ?_
    rintro r w3 ⟨rfl, A⟩
    replace H := up _ _ _ A
    generalize rSigned l st.2.1 st.2.2 W = sr at *
    rw [hst]
    refine app1_h slTI 2 H rfl (u := .int .i64 sr.1) (by simp) (by omega) (by unfold maxLen; omega) (by simp) (by simp) (by simp) (by simp) ?_
    intro vb v' w4 w5 H
    refine ⟨.inl rfl, ?_⟩
    have hw1 : IntKind.i64.wrap ((i : Int) + 1) = ((i + 1 : Nat) : Int) := by rw [wI (by omega) (by omega)]; omega
    simp [-Int.natCast_add, hw1, f0, f7, f10, f37, f38]
    rw [intsV_snoc] at H
    exact ⟨by omega, H⟩
  · rintro env w' ⟨f0, f7, f10, f37, f38, H⟩
    simp [f37, f38]
    refine ite_r (t := false) (by simp) (fun h => by cases h) (fun _ => ?_)
    have hlen := sgTo_len l p2 e2 W N
    generalize sgTo l p2 e2 W N = st at *
    obtain ⟨sl, p3, e3⟩ := st
    simp only at *
    obtain ⟨hR, _⟩ := H.rqUp 0 rfl
    refine callp (err_c hR) (by simp [f0]) ?_
    simp
    by_cases he : e3 ≠ 0
    · refine ite_r (t := true) (by simp [he]) (fun _ => ?_) (fun h => by cases h)
      refine callp (err_c hR) (by simp [f0]) ?_
      simp [he]
      exact ⟨_, _, ⟨rfl, rfl⟩, fin (H.drop 2)⟩
    obtain rfl : e3 = 0 := by omega
    refine ite_r (t := false) (by simp) (fun h => by cases h) (fun _ => ?_)
    simp
    have hrd := H.rd 2 rfl
    rw [← hlen] at hrd
    refine callp (width_c' hrd (by omega)) (by simp) ?_
    simp [f10]
    by_cases hw : widL sl = W
    · refine ite_r (t := false) (by simp [hw]) (fun h => by cases h) (fun _ => ?_)
      simp [hw, f7]
      rw [← hlen] at H
      exact ⟨_, _, ⟨rfl, rfl⟩, rfl, H.shutR⟩
    · refine ite_r (t := true) (by simp; omega) (fun _ => ?_) (fun h => by cases h)
      simp [hw]
      exact ⟨_, _, ⟨rfl, rfl⟩, fin (H.drop 2)⟩

end Go.Proofs.Ytajkofndbeohpaa.VG

/-! ## Parts: a plan and a row got from bits, by the program. -/
namespace Go.Proofs.Ytajkofndbeohpaa.VG
open Go
set_option linter.unusedSimpArgs false
set_option linter.unusedVariables false

def gTo (l : List Nat) (s : List Int) (p0 : Nat) : Nat → (List Int × List Int × Int) × Nat × Int
  | 0 => (([], [], 0), p0, 0)
  | i + 1 => if (gTo l s p0 i).1.2.2 ≠ 0 then gTo l s p0 i
    else if (oneQ l (gTo l s p0 i).2.1 (gi s i)).1.2 ≠ 0 then (([], [], (oneQ l (gTo l s p0 i).2.1 (gi s i)).1.2), (oneQ l (gTo l s p0 i).2.1 (gi s i)).2)
    else (((gTo l s p0 i).1.1 ++ [((rGet l (gTo l s p0 i).2.1 0 5).1 : Int)], (gTo l s p0 i).1.2.1 ++ (oneQ l (gTo l s p0 i).2.1 (gi s i)).1.1, 0), (oneQ l (gTo l s p0 i).2.1 (gi s i)).2)
def getP (l : List Nat) (p : Nat) (e n wm : Int) : (Int × List Int × List Int × Int) × Nat × Int :=
  if rowB n wm = false then ((0, [], [], 1), p, e)
  else if (rGet l p e 4).2.2 ≠ 0 then ((0, [], [], (rGet l p e 4).2.2), (rGet l p e 4).2)
  else if szB (rGet l p e 4).1 n wm = false then ((0, [], [], 2), (rGet l p e 4).2)
  else if (gTo l (szS (rGet l p e 4).1 n wm) (rGet l p e 4).2.1 (szS (rGet l p e 4).1 n wm).length).1.2.2 ≠ 0 then
    ((0, [], [], (gTo l (szS (rGet l p e 4).1 n wm) (rGet l p e 4).2.1 (szS (rGet l p e 4).1 n wm).length).1.2.2), (gTo l (szS (rGet l p e 4).1 n wm) (rGet l p e 4).2.1 (szS (rGet l p e 4).1 n wm).length).2)
  else (((rGet l p e 4).1, (gTo l (szS (rGet l p e 4).1 n wm) (rGet l p e 4).2.1 (szS (rGet l p e 4).1 n wm).length).1), (gTo l (szS (rGet l p e 4).1 n wm) (rGet l p e 4).2.1 (szS (rGet l p e 4).1 n wm).length).2)

theorem getF_ok (l : List Nat) (K : Nat) : ∀ n p out, (getF l K n p out).1.2 = 0 → (getF l K n p out).2.2 = 0
  | 0, p, out, _ => rfl
  | n + 1, p, out, h => by
    simp only [getF] at h ⊢
    split
    · rename_i h1; rw [if_pos h1] at h; exact absurd h h1
    · rename_i h1; rw [if_neg h1] at h; exact getF_ok l K n _ _ h
theorem getS_ok {l : List Nat} {p : Nat} {k n : Int} (h : (getS l p 0 k n).1.2 = 0) : (getS l p 0 k n).2.2 = 0 := by
  unfold getS at *
  split
  · rfl
  · rename_i h1
    rw [if_neg h1, if_neg (by simp)] at h
    rw [if_neg (by simp)]
    exact getF_ok _ _ _ _ _ h
theorem partQ_ok {l : List Nat} {p : Nat} {k size : Int} (h : (partQ l p k size).1.2 = 0) : (partQ l p k size).2.2 = 0 := by
  unfold partQ at *
  split
  · rename_i h1
    rw [if_pos h1] at h
    split
    · rename_i h2; rw [if_pos h2] at h; exact getS_ok h
    · rfl
  · rename_i h1
    rw [if_neg h1] at h
    split
    · rename_i h2; rw [if_pos h2] at h; exact absurd h h2
    · rename_i h2
      split
      · simpa using h2
      · simpa using h2
theorem oneQ_ok {l : List Nat} {p : Nat} {size : Int} (h : (oneQ l p size).1.2 = 0) : (oneQ l p size).2.2 = 0 := by
  unfold oneQ at *
  split
  · rename_i h1; rw [if_pos h1] at h; exact absurd h h1
  · rename_i h1; rw [if_neg h1] at h; exact partQ_ok h
theorem partQ_len (l : List Nat) (p : Nat) (k size : Int) (h : size ≤ 4096) : (partQ l p k size).1.1.length ≤ 4194304 := by
  unfold partQ
  split
  · split
    · exact getS_len ..
    · simp
  · split
    · simp
    · split
      · simp
      · rw [sgTo_len]; omega
theorem oneQ_len (l : List Nat) (p : Nat) (size : Int) (h : size ≤ 4096) : (oneQ l p size).1.1.length ≤ 4194304 := by
  unfold oneQ
  split
  · simp
  · exact partQ_len _ _ _ _ h
theorem gTo_stick {l : List Nat} {s : List Int} {p0 i : Nat} (h : (gTo l s p0 i).1.2.2 ≠ 0) : ∀ j, i ≤ j → gTo l s p0 j = gTo l s p0 i
  | 0, hj => by obtain rfl : i = 0 := by omega
                rfl
  | j + 1, hj => by
    by_cases he : i = j + 1
    · subst he; rfl
    · have ih := gTo_stick h j (by omega)
      rw [gTo, if_pos (by rw [ih]; exact h), ih]
theorem gTo_len (l : List Nat) (s : List Int) (p0 : Nat) (hs : ∀ i, i < s.length → gi s i ≤ 4096) : ∀ i, i ≤ s.length → (gTo l s p0 i).1.1.length ≤ i ∧ (gTo l s p0 i).1.2.1.length ≤ i * 4194304
  | 0, _ => by simp [gTo]
  | i + 1, hi => by
    have ih := gTo_len l s p0 hs i (by omega)
    have h1 := oneQ_len l (gTo l s p0 i).2.1 (gi s i) (hs i (by omega))
    simp only [gTo]
    split
    · omega
    split
    · simp
    · simp; omega
theorem gTo_ok {l : List Nat} {s : List Int} {p0 : Nat} : ∀ {i}, (gTo l s p0 i).1.2.2 = 0 → (gTo l s p0 i).2.2 = 0 ∧ (gTo l s p0 i).1.1.length = i
  | 0, _ => ⟨rfl, rfl⟩
  | i + 1, h => by
    simp only [gTo] at h ⊢
    split
    · rename_i h1; rw [if_pos h1] at h; exact absurd h h1
    rename_i h1
    rw [if_neg h1] at h
    have ih := gTo_ok (l := l) (s := s) (p0 := p0) (i := i) (by simpa using h1)
    split
    · rename_i h2; rw [if_pos h2] at h; exact absurd h h2
    · rename_i h2
      refine ⟨oneQ_ok (by simpa using h2), by simp [ih.2]⟩

/-- A plan, a row and an error made; the reader carried on. -/
def PlanRd (w : World) (F : Nat → Prop) (b : Nat) (l : List Nat) (r : Value) (s : (Int × List Int × List Int × Int) × Nat × Int) (w' : World) : Prop :=
  ∃ kv u, r = .tuple #[planV s.1.1 kv, u, .int .i64 s.1.2.2.2] ∧ RrF w F b l s.2.1 s.2.2 w' ∧ ∃ Gs, Sep w.heap.size w' [.own 3 1 kv s.1.2.1.length (intsV s.1.2.1), .own 3 1 u s.1.2.2.1.length (intsV s.1.2.2.1)] Gs

theorem blk2 {w : World} {t : Nat} {a c : Value} (h : ∀ o, w.cell? ⟨t, o, none⟩ = (#[a, c] : Array Value)[o]?) : (cellsFrom w ⟨t, 0, none⟩ 0 2).toArray = #[a, c] ∧ (∀ j, j < 2 → (w.cell? ⟨t, j, none⟩).isSome = true) ∧ w.cell? ⟨t, 0, none⟩ = some a ∧ w.cell? ⟨t, 1, none⟩ = some c := by
  have h0 : w.cell? ⟨t, 0, none⟩ = some a := by rw [h 0]; rfl
  have h1 : w.cell? ⟨t, 1, none⟩ = some c := by rw [h 1]; rfl
  refine ⟨cells_blk h 2 rfl, fun j hj => ?_, h0, h1⟩
  obtain rfl | rfl : j = 0 ∨ j = 1 := by omega
  · rw [h0]; rfl
  · rw [h1]; rfl
theorem plan_cells (o : Int) (kv : Value) (h : kv.cells = #[kv]) : (planV o kv).cells = #[.int .i64 o, kv] := by simp [planV, Value.cells, h, putAt]
theorem plan_bad {w w2 : World} {F : Nat → Prop} {b : Nat} {l : List Nat} {p : Nat} {e er : Int} (H : Hp (bare w) w2 [.rq F b l p e, .old w F]) : PlanRd w F b l (.tuple #[.agg #[.int .i64 0, .slice none 0 0], .slice none 0 0, .int .i64 er]) ((0, [], [], er), p, e) w2 :=
  ⟨_, _, rfl, H.nilS.nilS.shutR⟩

set_option maxHeartbeats 4000000 in
theorem pget_c {w : World} {F : Nat → Prop} {b : Nat} {l : List Nat} {p : Nat} {e : Int} (h : Rr w F b l p e) (n wm : Int) :
    Calls Try.prog 34 [.pointer (some ⟨b, 0, none⟩), .int .i64 n, .int .i64 wm].toArray w (Ret fun r w' => PlanRd w F b l r (getP l p e n wm) w') := by
  refine F_sound c34 (by simp [fc34]) ?_
  have H := Hp.openR h
  simp [fc34, s34]
  obtain ⟨i2, hi2, hz2⟩ : ∃ i, Try.prog.info? 24 = some i ∧ i.zero = some (planV 0 (.slice none 0 0)) := ⟨_, rfl, rfl⟩
  refine alloc_h H hi2 hz2 ?_
  intro t w1 H M1
  refine ⟨.inl rfl, ?_⟩
  have hpn : (planV 0 (.slice none 0 0)).cells = #[.int .i64 0, .slice none 0 0] := plan_cells 0 _ rfl
  rw [hpn] at H
  simp
  refine callp (prow_c n wm) (by simp) ?_
  unfold getP
  by_cases hr : rowB n wm = true
  rotate_left
  · simp [hr]
    refine ite_r (t := true) (by simp [hr]) (fun _ => ?_) (fun h => by cases h)
    refine stAll_h 2 H rfl (v := planV 0 (.slice none 0 0)) (by simp) (by simp [planV]) rfl rfl (by rw [hpn]; simp) ?_
    intro w2 H
    rw [hpn] at H
    refine ⟨.inl rfl, ?_⟩
    obtain ⟨hc, hj, _, _⟩ := blk2 (H.blk 2 rfl)
    simp [hc, hj]
    exact ⟨hj, plan_bad (H.drop 2)⟩
  simp [hr]
  refine ite_r (t := false) (by simp [hr]) (fun h => by cases h) (fun _ => ?_)
  obtain ⟨hR, up⟩ := H.rqUp 0 rfl
  refine call_h (get_c hR 4) (by simp) ?_
  rintro r w2 ⟨rfl, A⟩
  replace H := up _ _ _ A
  have hO := rGet_lt l p e 4
  rw [show ((4 : Nat) : Int) = 4 from rfl] at hO
  generalize rGet l p e 4 = g at *
  obtain ⟨O, p1, e1⟩ := g
  simp only at *
  obtain ⟨hR, up⟩ := H.rqUp 0 rfl
  have hwO : IntKind.i64.wrap (O : Int) = O := wI (by omega) (by omega)
  simp [hwO]
  refine callp (err_c hR) (by simp) ?_
  simp
  by_cases he : e1 ≠ 0
  · refine ite_r (t := true) (by simp [he]) (fun _ => ?_) (fun h => by cases h)
    refine callp (err_c hR) (by simp) ?_
    refine stAll_h 2 H rfl (v := planV 0 (.slice none 0 0)) (by simp) (by simp [planV]) rfl rfl (by rw [hpn]; simp) ?_
    intro w3 H
    rw [hpn] at H
    refine ⟨.inl rfl, ?_⟩
    obtain ⟨hc, hj, _, _⟩ := blk2 (H.blk 2 rfl)
    simp [hc, hj, he]
    exact ⟨hj, plan_bad (H.drop 2)⟩
  obtain rfl : e1 = 0 := by omega
  refine ite_r (t := false) (by simp) (fun h => by cases h) (fun _ => ?_)
  refine call_h (sizes_c (O : Int) n wm) (by simp) ?_
  intro sv w3 HR
  replace H := H.join HR
  obtain ⟨sS, sL⟩ := (H.rd 3 rfl).sl
  have hle := szS_le O n wm
  have hnil := @szS_nil O n wm
  have hlz : (szS O n wm).length = 0 ↔ szB O n wm = false := by rw [← hnil]; exact List.length_eq_zero_iff
  have hfact := @sz_fact O n wm
  generalize szS O n wm = s at *
  simp [sS, sL]
  by_cases hB : szB (O : Int) n wm = true
  rotate_left
  · have h0 := hlz.2 (by simpa using hB)
    refine ite_r (t := true) (by simp; rw [← List.length_eq_zero_iff]; omega) (fun _ => ?_) (fun h => by cases h)
    refine stAll_h 2 H rfl (v := planV 0 (.slice none 0 0)) (by simp) (by simp [planV]) rfl rfl (by rw [hpn]; simp) ?_
    intro w4 H
    rw [hpn] at H
    refine ⟨.inl rfl, ?_⟩
    obtain ⟨hc, hj, _, _⟩ := blk2 (H.blk 2 rfl)
    simp [hc, hj, hB]
    exact ⟨hj, plan_bad ((H.drop 2).drop 2)⟩
  obtain ⟨hge, hat, hpos⟩ := hfact hB
  refine ite_r (t := false) (by simp; rw [← List.length_eq_zero_iff]; omega) (fun h => by cases h) (fun _ => ?_)
  simp [hB]
  refine ⟨rfl, ?_⟩
  refine alloc_h H hi2 hz2 ?_
  intro t2 w4 H M4
  rw [hpn] at H
  refine ⟨.inl rfl, ?_⟩
  simp
  refine stAll_h 4 H rfl (v := planV O (.slice none 0 0)) (by simp) (by simp [planV, putAt, Value.cells]) rfl rfl (by rw [plan_cells _ _ rfl]; simp) ?_
  intro w5 H
  rw [plan_cells _ _ rfl] at H
  refine ⟨.inl rfl, ?_⟩
  simp [sS, sL]
  refine for_r s.length (fun i env' w' => env' 0 = .pointer (some ⟨b, 0, none⟩) ∧ env' 6 = .pointer (some ⟨t, 0, none⟩) ∧ env' 11 = .pointer (some ⟨t2, 0, none⟩) ∧ env' 42 = sv ∧ env' 43 = .int .i64 s.length ∧ env' 44 = .int .i64 i ∧ (gTo l s p1 i).1.2.2 = 0 ∧
    ∃ kv, Hp (bare w) w' [.rq F b l (gTo l s p1 i).2.1 0, .old w F, .blk t #[.int .i64 0, .slice none 0 0], .own 3 1 sv s.length (intsV s), .blk t2 #[.int .i64 O, kv], .own 3 1 kv (gTo l s p1 i).1.1.length (intsV (gTo l s p1 i).1.1), .own 3 1 (env' 12) (gTo l s p1 i).1.2.1.length (intsV (gTo l s p1 i).1.2.1)]) ?_ ?_ ?_
  · simp [sL, gTo]
    exact ⟨_, H.nilS.nilS⟩
  · rintro i env w' hi ⟨f0, f6, f11, f42, f43, f44, hok, kv, H⟩
    simp [f43, f44]
    refine ite_r (t := true) (by simp; omega) (fun _ => ?_) (fun h => by cases h)
    simp [wp_blk]
    have hst := gTo_stick (l := l) (s := s) (p0 := p1) (i := i + 1)
    have hnx : gTo l s p1 (i + 1) = if (oneQ l (gTo l s p1 i).2.1 (gi s i)).1.2 ≠ 0 then (([], [], (oneQ l (gTo l s p1 i).2.1 (gi s i)).1.2), (oneQ l (gTo l s p1 i).2.1 (gi s i)).2)
      else (((gTo l s p1 i).1.1 ++ [((rGet l (gTo l s p1 i).2.1 0 5).1 : Int)], (gTo l s p1 i).1.2.1 ++ (oneQ l (gTo l s p1 i).2.1 (gi s i)).1.1, 0), (oneQ l (gTo l s p1 i).2.1 (gi s i)).2) := by rw [gTo, if_neg (by simpa using hok)]
    have hln := gTo_len l s p1 (fun i hi => (hge i hi).2) i (by omega)
    generalize gTo l s p1 i = g at *
    obtain ⟨⟨ks, out, er⟩, p2, e2⟩ := g
    simp only at *
    subst hok
    have srd := H.rd 3 rfl
    have hg := srd.gi i hi
    have hp := srd.some (by omega)
    obtain ⟨hg0, hg4⟩ := hge i hi
    simp [f42, f44, sS, sL, hi, hg, hp]
    obtain ⟨hR, up⟩ := H.rqF 0 rfl
    refine call_h (pone_c hR (gi s i) hg0 hg4) (by simp [f0]) ?_
    rintro r w6 ⟨k', u, rfl, hk', hrd1, hrd2⟩
    replace H := up _ _ _ _ hrd1 hrd2
    have hol := oneQ_len l p2 (gi s i) hg4
    have hoe := @oneQ_ok l p2 (gi s i)
    generalize oneQ l p2 (gi s i) = q at *
    obtain ⟨⟨row, er⟩, p3, e3⟩ := q
    simp only at *
    simp
    by_cases he : er ≠ 0
    · rw [if_pos he] at hnx
      rw [hst (by rw [hnx]; exact he) s.length (by omega), hnx]
      refine ite_r (t := true) (by simp [he]) (fun _ => ?_) (fun h => by cases h)
      refine stAll_h 2 H rfl (v := planV 0 (.slice none 0 0)) (by simp [f6]) (by simp [planV]) rfl rfl (by rw [hpn]; simp) ?_
      intro w7 H
      rw [hpn] at H
      refine ⟨.inl rfl, ?_⟩
      obtain ⟨hc, hj, _, _⟩ := blk2 (H.blk 2 rfl)
      simp [f6, hc, hj, he]
      exact ⟨hj, plan_bad ((((((H.drop 2).drop 2).drop 2).drop 2).drop 2).drop 2)⟩
    obtain rfl : er = 0 := by omega
    rw [if_neg (by simp)] at hnx
    obtain rfl : e3 = 0 := hoe rfl
    rw [hnx]
    obtain rfl : k' = (rGet l p2 0 5).1 := hk' rfl
    generalize ((rGet l p2 0 5).1 : Int) = k1 at *
    refine ite_r (t := false) (by simp) (fun h => by cases h) (fun _ => ?_)
    obtain ⟨_, _, _, hb1⟩ := blk2 (H.blk 4 rfl)
    simp [f11, hb1]
    refine app1_h slTI 5 H rfl (u := .int .i64 k1) (by simp) (by omega) (by unfold maxLen; omega) (by simp) (by simp) (by simp) (by simp) ?_
    intro vb kv2 w7 w8 H
    refine ⟨.inl rfl, ?_⟩
    simp [f11]
    refine st_h 4 H rfl (o := 1) (v := kv2) (by simp [f11]) (by simp) (by simp) (own_one (H.own 5 rfl)) ?_
    intro w9 H
    refine ⟨.inl rfl, ?_⟩
    refine app_h slTI 6 H rfl (H.rd 7 rfl) (by simp [intsV]) (intsV_one _) (by omega) (by unfold maxLen; omega) (by simp) (by simp) ?_
    intro v' w10 H
    refine ⟨.inl rfl, ?_⟩
    replace H := H.drop 7
    rw [intsV_snoc, intsV_app] at H
    have hw1 : IntKind.i64.wrap ((i : Int) + 1) = ((i + 1 : Nat) : Int) := by rw [wI (by omega) (by omega)]; omega
    simp [-Int.natCast_add, hw1, f0, f6, f11, f42, f43, f44]
    refine ⟨by omega, kv2, ?_⟩
    simpa using H
  · rintro env w' ⟨f0, f6, f11, f42, f43, f44, hok, kv, H⟩
    simp [f43, f44]
    refine ite_r (t := false) (by simp) (fun h => by cases h) (fun _ => ?_)
    have hok2 := (gTo_ok hok).1
    generalize gTo l s p1 s.length = g at *
    obtain ⟨⟨ks, out, er⟩, p2, e2⟩ := g
    simp only at *
    subst hok hok2
    obtain ⟨hc, hj, hb0, hb1⟩ := blk2 (H.blk 4 rfl)
    simp [f11, hc, hj]
    refine ⟨hj, ?_⟩
    have hkc : kv.cells = #[kv] := by obtain ⟨cap, hv⟩ := (H.rd 5 rfl).is; rw [hv]; rfl
    refine stAll_h 2 H rfl (v := planV O kv) (by simp [f6]) (by simp [planV]) (by rw [plan_cells _ _ hkc]; rfl) rfl (by rw [plan_cells _ _ hkc]; simp; exact own_one (H.own 5 rfl)) ?_
    intro w7 H
    rw [plan_cells _ _ hkc] at H
    refine ⟨.inl rfl, ?_⟩
    obtain ⟨hc, hj, _, _⟩ := blk2 (H.blk 2 rfl)
    simp [f6, hc, hj]
    exact ⟨hj, _, _, rfl, (((H.drop 2).drop 2).drop 2).shutR⟩

end Go.Proofs.Ytajkofndbeohpaa.VG

/-! ## Parts: got from bits, by the document. -/
namespace Go.Proofs.Ytajkofndbeohpaa.VG
open Go
set_option linter.unusedSimpArgs false
set_option linter.unusedVariables false

theorem sgTo_stick {l : List Nat} {p : Nat} {e wd : Int} {i : Nat} (h : (sgTo l p e wd i).2.2 ≠ 0) : ∀ j, i ≤ j → (sgTo l p e wd j).2 = (sgTo l p e wd i).2
  | 0, hj => by obtain rfl : i = 0 := by omega
                rfl
  | j + 1, hj => by
    by_cases he : i = j + 1
    · subst he; rfl
    · have ih := sgTo_stick h j (by omega)
      have hs : (sgTo l p e wd (j + 1)).2 = (rSigned l (sgTo l p e wd j).2.1 (sgTo l p e wd j).2.2 wd).2 := rfl
      rw [hs, ih]
      have hg : rGet l (sgTo l p e wd i).2.1 (sgTo l p e wd i).2.2 wd = (0, (sgTo l p e wd i).2) := by unfold rGet; rw [if_pos h]
      simp only [rSigned, hg]

set_option maxHeartbeats 2000000 in
theorem sget_c {w : World} {G : Nat → Prop} {b : Nat} {v : Value} {l : List Nat} {p : Nat} {e : Int} (h : Yr w G b v l p e) (N W : Nat) (hN : N ≤ 4096) (hW : W < 32) :
    Calls Try.prog 77 [.pointer (some ⟨b, 0, none⟩), .int .i64 N, .int .i64 W].toArray w (Ret fun r w' => YrAfter w G b v l (sgTo l p e W N).2.1 (sgTo l p e W N).2.2 w' ∧
      ∃ xs : List Int, ((sgTo l p e W N).2.2 = 0 → xs = (sgTo l p e W N).1) ∧ xs.length ≤ N ∧ ∃ Gs, Sep w.heap.size w' [.own 3 1 r xs.length (intsV xs)] Gs) := by
  refine F_sound c77 (by simp [fc77]) ?_
  have H := Hp.openY h
  simp [fc77, s77]
  refine for_r N (fun i env' w' => env' 0 = .pointer (some ⟨b, 0, none⟩) ∧ env' 1 = .int .i64 N ∧ env' 2 = .int .i64 W ∧ env' 8 = .int .i64 i ∧
    Hp (bare w) w' [.yq v l b (sgTo l p e W i).2.1 (sgTo l p e W i).2.2, .old w (fun k => k = b), .own 3 1 (env' 7) i (intsV (sgTo l p e W i).1)]) ?_ ?_ ?_
  · simp [sgTo]
    exact H.nilS
  · rintro i env w' hi ⟨f0, f1, f2, f8, H⟩
    obtain ⟨hY, hsz, up, _⟩ := H.yqUp h
    obtain ⟨c0, c1, c2, _, _⟩ := hY.sl
    simp [f0, f1, f8, c2]
    have hstick := @sgTo_stick l p e W i
    have hlen := sgTo_len l p e W i
    have hst : sgTo l p e W (i + 1) = ((sgTo l p e W i).1 ++ [(rSigned l (sgTo l p e W i).2.1 (sgTo l p e W i).2.2 W).1], (rSigned l (sgTo l p e W i).2.1 (sgTo l p e W i).2.2 W).2) := rfl
    generalize sgTo l p e W i = st at *
    by_cases he : st.2.2 = 0
    · refine ite_r (t := true) (by simp; omega) (fun _ => ?_) (fun h => by cases h)
      simp [wp_blk]
      refine call_h (ysigned_c hY W (by omega) (by omega)) (by simp [f0, f2]) ?_
      rintro r w3 ⟨rfl, A⟩
      replace H := up _ _ _ A
      generalize rSigned l st.2.1 st.2.2 W = sr at *
      rw [hst]
      refine app1_h slTI 2 H rfl (u := .int .i64 sr.1) (by simp) (by omega) (by unfold maxLen; omega) (by simp) (by simp) (by simp) (by simp) ?_
      intro vb v' w4 w5 H
      refine ⟨.inl rfl, ?_⟩
      have hw1 : IntKind.i64.wrap ((i : Int) + 1) = ((i + 1 : Nat) : Int) := by rw [wI (by omega) (by omega)]; omega
      simp [-Int.natCast_add, hw1, f0, f1, f2, f8]
      rw [intsV_snoc] at H
      exact ⟨by omega, H⟩
    · refine ite_r (t := false) (by simp [he]) (fun h => by cases h) (fun _ => ?_)
      simp
      have hs := hstick he N (by omega)
      rw [hs]
      rw [← hlen] at H
      obtain ⟨q1, q2⟩ := H.shutY h
      exact ⟨q1, st.1, fun h => absurd h he, by omega, q2⟩
  · rintro env w' ⟨f0, f1, f2, f8, H⟩
    obtain ⟨hY, hsz, up, _⟩ := H.yqUp h
    obtain ⟨c0, c1, c2, _, _⟩ := hY.sl
    simp [f0, f1, f8, c2]
    refine ite_r (t := false) (by simp) (fun h => by cases h) (fun _ => ?_)
    simp
    have hlen := sgTo_len l p e W N
    generalize sgTo l p e W N = st at *
    rw [← hlen] at H
    obtain ⟨q1, q2⟩ := H.shutY h
    exact ⟨q1, _, fun _ => rfl, by omega, q2⟩

/-- A row made and an error, the document's reader carried on. -/
def RowYd (w : World) (G : Nat → Prop) (b : Nat) (v : Value) (l : List Nat) (u : Value) (s : (List Int × Int) × Nat × Int) (w' : World) : Prop :=
  YrAfter w G b v l s.2.1 s.2.2 w' ∧ ∃ Gs, Sep w.heap.size w' [.own 3 1 u s.1.1.length (intsV s.1.1)] Gs


set_option maxHeartbeats 2000000 in
theorem ppart_c {w : World} {G : Nat → Prop} {b : Nat} {v : Value} {l : List Nat} {p : Nat} (h : Yr w G b v l p 0) (hG : ∀ k, G k → k < w.heap.size) (k size : Int) (hs0 : 0 ≤ size) (hs1 : size ≤ 4096) :
    Calls Try.prog 61 [.pointer (some ⟨b, 0, none⟩), .int .i64 k, .int .i64 size].toArray w (Ret fun r w' => ∃ u, r = .tuple #[u, .int .i64 (partQ l p k size).1.2] ∧ RowYd w G b v l u (partQ l p k size) w') := by
  refine F_sound c61 (by simp [fc61]) ?_
  have H := Hp.openY h
  have fin : ∀ {w' : World} {p e er}, Hp (bare w) w' [.yq v l b p e, .old w (fun k => k = b)] → RowYd w G b v l (.slice none 0 0) (([], er), p, e) w' := fun H => H.nilS.shutY h
  simp [fc61, s61]
  unfold partQ
  by_cases hk : k = 31
  rotate_left
  · refine ite_r (t := true) (by simp [hk]) (fun _ => ?_) (fun h => by cases h)
    refine callp (rparam2_c k) (by simp) ?_
    by_cases hp : paramB k = true
    · simp [hp]
      refine ite_r (t := false) (by simp) (fun h => by cases h) (fun _ => ?_)
      obtain ⟨hY, hsz, up, up2⟩ := H.yqUp h
      refine call_h (xrget_c hY (fun k hk => hG k hk) k size) (by simp) ?_
      rintro r w2 ⟨⟨u, rfl, hu1, hu2⟩, A⟩
      have H2 := up2 _ _ _ _ A (sep_own hu1 hu2)
      simp [hk]
      exact H2.shutY h
    · simp [hp]
      refine ite_r (t := true) (by simp) (fun _ => ?_) (fun h => by cases h)
      simp [hk]
      exact fin H
  subst hk
  refine ite_r (t := false) (by simp) (fun h => by cases h) (fun _ => ?_)
  obtain ⟨hY, hsz, up, up2⟩ := H.yqUp h
  refine call_h (yget_c hY 5) (by simp) ?_
  rintro r w2 ⟨rfl, A⟩
  replace H := up _ _ _ A
  have hW := rGet_lt l p 0 5
  rw [show ((5 : Nat) : Int) = 5 from rfl] at hW
  generalize rGet l p 0 5 = g at *
  obtain ⟨W, p2, e2⟩ := g
  simp only at *
  have hwW : IntKind.i64.wrap (W : Int) = W := wI (by omega) (by omega)
  obtain ⟨N, rfl⟩ : ∃ N : Nat, size = N := ⟨size.toNat, by omega⟩
  simp [hwW]
  obtain ⟨hY, hsz, up, up2⟩ := H.yqUp h
  refine call_h (sget_c hY N W (by omega) (by omega)) (by simp) ?_
  rintro u w3 ⟨A, xs, hxs, hxl, hsep⟩
  replace H := up2 _ _ _ _ A hsep
  have hlen := sgTo_len l p2 e2 W N
  generalize sgTo l p2 e2 W N = st at *
  obtain ⟨sl, p3, e3⟩ := st
  simp only at *
  obtain ⟨hY, hsz, up, up2⟩ := H.yqUp h
  obtain ⟨c0, c1, c2, _, _⟩ := hY.sl
  simp [c2]
  by_cases he : e3 ≠ 0
  · refine ite_r (t := true) (by simp [he]) (fun _ => ?_) (fun h => by cases h)
    simp [c2, he]
    exact fin (H.drop 2).drew
  obtain rfl : e3 = 0 := by omega
  obtain rfl := hxs rfl
  refine ite_r (t := false) (by simp) (fun h => by cases h) (fun _ => ?_)
  simp
  have hrd := H.rd 2 rfl
  refine callp (width2_c hrd (by omega)) (by simp) ?_
  simp
  by_cases hw : widL xs = W
  · refine ite_r (t := false) (by simp [hw]) (fun h => by cases h) (fun _ => ?_)
    simp [hw]
    exact H.shutY h
  · refine ite_r (t := true) (by simp; omega) (fun _ => ?_) (fun h => by cases h)
    simp [hw]
    exact fin (H.drop 2)

/-- A plan, a row and an error made; the document's reader carried on. -/
def PlanYd (w : World) (G : Nat → Prop) (b : Nat) (v : Value) (l : List Nat) (r : Value) (s : (Int × List Int × List Int × Int) × Nat × Int) (w' : World) : Prop :=
  ∃ kv u, r = .tuple #[planV s.1.1 kv, u, .int .i64 s.1.2.2.2] ∧ YrAfter w G b v l s.2.1 s.2.2 w' ∧ ∃ Gs, Sep w.heap.size w' [.own 3 1 kv s.1.2.1.length (intsV s.1.2.1), .own 3 1 u s.1.2.2.1.length (intsV s.1.2.2.1)] Gs
theorem plan_badY {w w2 : World} {G : Nat → Prop} {b : Nat} {v : Value} {l : List Nat} {p p0 : Nat} {e e0 er : Int} (h : Yr w G b v l p0 e0) (H : Hp (bare w) w2 [.yq v l b p e, .old w (fun k => k = b)]) : PlanYd w G b v l (.tuple #[.agg #[.int .i64 0, .slice none 0 0], .slice none 0 0, .int .i64 er]) ((0, [], [], er), p, e) w2 :=
  ⟨_, _, rfl, H.nilS.nilS.shutY h⟩

end Go.Proofs.Ytajkofndbeohpaa.VG

/-! ## Parts: a plan and a row got from bits, by the document; plans compared. -/
namespace Go.Proofs.Ytajkofndbeohpaa.VG
open Go
set_option linter.unusedSimpArgs false
set_option linter.unusedVariables false

set_option maxHeartbeats 4000000 in
theorem pget2_c {w : World} {G : Nat → Prop} {b : Nat} {v : Value} {l : List Nat} {p : Nat} {e : Int} (h : Yr w G b v l p e) (hG : ∀ k, G k → k < w.heap.size) (n wm : Int) :
    Calls Try.prog 35 [.pointer (some ⟨b, 0, none⟩), .int .i64 n, .int .i64 wm].toArray w (Ret fun r w' => PlanYd w G b v l r (getP l p e n wm) w') := by
  refine F_sound c35 (by simp [fc35]) ?_
  have H := Hp.openY h
  simp [fc35, s35]
  obtain ⟨i2, hi2, hz2⟩ : ∃ i, Try.prog.info? 24 = some i ∧ i.zero = some (planV 0 (.slice none 0 0)) := ⟨_, rfl, rfl⟩
  refine alloc_h H hi2 hz2 ?_
  intro t w1 H M1
  refine ⟨.inl rfl, ?_⟩
  have hpn : (planV 0 (.slice none 0 0)).cells = #[.int .i64 0, .slice none 0 0] := plan_cells 0 _ rfl
  rw [hpn] at H
  simp
  refine callp (prow2_c n wm) (by simp) ?_
  unfold getP
  by_cases hr : rowB n wm = true
  rotate_left
  · simp [hr]
    refine ite_r (t := true) (by simp [hr]) (fun _ => ?_) (fun h => by cases h)
    refine stAll_h 2 H rfl (v := planV 0 (.slice none 0 0)) (by simp) (by simp [planV]) rfl rfl (by rw [hpn]; simp) ?_
    intro w2 H
    rw [hpn] at H
    refine ⟨.inl rfl, ?_⟩
    obtain ⟨hc, hj, _, _⟩ := blk2 (H.blk 2 rfl)
    simp [hc, hj]
    exact ⟨hj, plan_badY h (H.drop 2)⟩
  simp [hr]
  refine ite_r (t := false) (by simp [hr]) (fun h => by cases h) (fun _ => ?_)
  obtain ⟨hY, hsz, up, up2⟩ := H.yqUp h
  refine call_h (yget_c hY 4) (by simp) ?_
  rintro r w2 ⟨rfl, A⟩
  replace H := up _ _ _ A
  have hO := rGet_lt l p e 4
  rw [show ((4 : Nat) : Int) = 4 from rfl] at hO
  generalize rGet l p e 4 = g at *
  obtain ⟨O, p1, e1⟩ := g
  simp only at *
  have hwO : IntKind.i64.wrap (O : Int) = O := wI (by omega) (by omega)
  simp [hwO]
  refine ⟨rfl, ?_⟩
  refine alloc_h H hi2 hz2 ?_
  intro t2 w4 H M4
  rw [hpn] at H
  refine ⟨.inl rfl, ?_⟩
  simp
  refine stAll_h 3 H rfl (v := planV O (.slice none 0 0)) (by simp) (by simp [planV, putAt, Value.cells, hwO]) rfl rfl (by rw [plan_cells _ _ rfl]; simp) ?_
  intro w5 H
  rw [plan_cells _ _ rfl] at H
  refine ⟨.inl rfl, ?_⟩
  obtain ⟨hY, hsz, up, up2⟩ := H.yqUp h
  obtain ⟨_, _, c2, _, _⟩ := hY.sl
  simp [c2]
  by_cases he : e1 ≠ 0
  · refine ite_r (t := true) (by simp [he]) (fun _ => ?_) (fun h => by cases h)
    simp [c2]
    refine stAll_h 2 H.drew rfl (v := planV 0 (.slice none 0 0)) (by simp) (by simp [planV]) rfl rfl (by rw [hpn]; simp) ?_
    intro w6 H
    rw [hpn] at H
    obtain ⟨hY, _⟩ := H.yqUp h
    obtain ⟨_, _, d2, _, _⟩ := hY.sl
    refine ⟨.inr ⟨by simp [promOk, SameCells, c2, d2], trivial⟩, ?_⟩
    obtain ⟨hc, hj, _, _⟩ := blk2 (H.blk 2 rfl)
    simp [hc, hj, he]
    exact ⟨hj, plan_badY h ((H.drop 2).drop 2)⟩
  obtain rfl : e1 = 0 := by omega
  refine ite_r (t := false) (by simp) (fun h => by cases h) (fun _ => ?_)
  obtain ⟨_, _, hb0, _⟩ := blk2 (H.blk 3 rfl)
  simp [hb0]
  refine call_h (sizes2_c (O : Int) n wm) (by simp) ?_
  intro sv w3 HR
  replace H := H.join HR
  obtain ⟨sS, sL⟩ := (H.rd 4 rfl).sl
  have hle := szS_le O n wm
  have hnil := @szS_nil O n wm
  have hlz : (szS O n wm).length = 0 ↔ szB O n wm = false := by rw [← hnil]; exact List.length_eq_zero_iff
  have hfact := @sz_fact O n wm
  generalize szS O n wm = s at *
  simp [sS, sL]
  by_cases hB : szB (O : Int) n wm = true
  rotate_left
  · have h0 := hlz.2 (by simpa using hB)
    refine ite_r (t := true) (by simp; rw [← List.length_eq_zero_iff]; omega) (fun _ => ?_) (fun h => by cases h)
    refine stAll_h 2 H rfl (v := planV 0 (.slice none 0 0)) (by simp) (by simp [planV]) rfl rfl (by rw [hpn]; simp) ?_
    intro w4 H
    rw [hpn] at H
    refine ⟨.inl rfl, ?_⟩
    obtain ⟨hc, hj, _, _⟩ := blk2 (H.blk 2 rfl)
    simp [hc, hj, hB]
    exact ⟨hj, plan_badY h (((H.drop 2).drop 2).drop 2)⟩
  obtain ⟨hge, hat, hpos⟩ := hfact hB
  refine ite_r (t := false) (by simp; rw [← List.length_eq_zero_iff]; omega) (fun h => by cases h) (fun _ => ?_)
  simp [hB]
  refine for_r s.length (fun i env' w' => env' 0 = .pointer (some ⟨b, 0, none⟩) ∧ env' 6 = .pointer (some ⟨t, 0, none⟩) ∧ env' 9 = .pointer (some ⟨t2, 0, none⟩) ∧ env' 10 = sv ∧ env' 12 = .int .i64 i ∧ (gTo l s p1 i).1.2.2 = 0 ∧
    ∃ kv, Hp (bare w) w' [.yq v l b (gTo l s p1 i).2.1 0, .old w (fun k => k = b), .blk t #[.int .i64 0, .slice none 0 0], .blk t2 #[.int .i64 O, kv], .own 3 1 sv s.length (intsV s), .own 3 1 kv (gTo l s p1 i).1.1.length (intsV (gTo l s p1 i).1.1), .own 3 1 (env' 11) (gTo l s p1 i).1.2.1.length (intsV (gTo l s p1 i).1.2.1)]) ?_ ?_ ?_
  · simp [gTo]
    exact ⟨_, H.nilS.nilS⟩
  · rintro i env w' hi ⟨f0, f6, f9, f10, f12, hok, kv, H⟩
    simp [f10, f12, sS, sL]
    refine ite_r (t := true) (by simp; omega) (fun _ => ?_) (fun h => by cases h)
    simp [wp_blk]
    have hst := gTo_stick (l := l) (s := s) (p0 := p1) (i := i + 1)
    have hnx : gTo l s p1 (i + 1) = if (oneQ l (gTo l s p1 i).2.1 (gi s i)).1.2 ≠ 0 then (([], [], (oneQ l (gTo l s p1 i).2.1 (gi s i)).1.2), (oneQ l (gTo l s p1 i).2.1 (gi s i)).2)
      else (((gTo l s p1 i).1.1 ++ [((rGet l (gTo l s p1 i).2.1 0 5).1 : Int)], (gTo l s p1 i).1.2.1 ++ (oneQ l (gTo l s p1 i).2.1 (gi s i)).1.1, 0), (oneQ l (gTo l s p1 i).2.1 (gi s i)).2) := by rw [gTo, if_neg (by simpa using hok)]
    have hln := gTo_len l s p1 (fun i hi => (hge i hi).2) i (by omega)
    generalize gTo l s p1 i = g at *
    obtain ⟨⟨ks, out, er⟩, p2, e2⟩ := g
    simp only at *
    subst hok
    obtain ⟨hg0, hg4⟩ := hge i hi
    have hol := oneQ_len l p2 (gi s i) hg4
    have hoe := @oneQ_ok l p2 (gi s i)
    have hO1 : oneQ l p2 (gi s i) = if (rGet l p2 0 5).2.2 ≠ 0 then (([], (rGet l p2 0 5).2.2), (rGet l p2 0 5).2) else partQ l (rGet l p2 0 5).2.1 (rGet l p2 0 5).1 (gi s i) := rfl
    generalize oneQ l p2 (gi s i) = q at *
    obtain ⟨⟨row, er⟩, p3, e3⟩ := q
    simp only at *
    obtain ⟨hY, hsz, up, up2⟩ := H.yqUp h
    refine call_h (yget_c hY 5) (by simp [f0]) ?_
    rintro r w6 ⟨rfl, A⟩
    replace H := up _ _ _ A
    have hk := rGet_lt l p2 0 5
    rw [show ((5 : Nat) : Int) = 5 from rfl] at hk
    generalize rGet l p2 0 5 = g at *
    obtain ⟨k1, p4, e4⟩ := g
    simp only at *
    have hwk : IntKind.i64.wrap (k1 : Int) = k1 := wI (by omega) (by omega)
    obtain ⟨hY, hsz, up, up2⟩ := H.yqUp h
    obtain ⟨_, _, c2, _, _⟩ := hY.sl
    simp [f0, c2, hwk]
    by_cases he4 : e4 ≠ 0
    · rw [if_pos he4] at hO1
      simp only [Prod.mk.injEq] at hO1
      obtain ⟨⟨rfl, rfl⟩, rfl, rfl⟩ := hO1
      rw [if_pos he4] at hnx
      rw [hst (by rw [hnx]; exact he4) s.length (by omega), hnx]
      refine ite_r (t := true) (by simp [he4]) (fun _ => ?_) (fun h => by cases h)
      simp [f0, c2]
      refine stAll_h 2 H.drew rfl (v := planV 0 (.slice none 0 0)) (by simp [f6]) (by simp [planV]) rfl rfl (by rw [hpn]; simp) ?_
      intro w7 H
      rw [hpn] at H
      obtain ⟨hY, _⟩ := H.yqUp h
      obtain ⟨_, _, d2, _, _⟩ := hY.sl
      refine ⟨.inr ⟨by simp [promOk, SameCells, f0, c2, d2], trivial⟩, ?_⟩
      obtain ⟨hc, hj, _, _⟩ := blk2 (H.blk 2 rfl)
      simp [f6, hc, hj, he4]
      exact ⟨hj, plan_badY h (((((H.drop 2).drop 2).drop 2).drop 2).drop 2)⟩
    obtain rfl : e4 = 0 := by omega
    rw [if_neg (by simp)] at hO1
    refine ite_r (t := false) (by simp) (fun h => by cases h) (fun _ => ?_)
    obtain ⟨_, _, _, hb1⟩ := blk2 (H.blk 3 rfl)
    simp [f9, hb1]
    refine app1_h slTI 5 H rfl (u := .int .i64 k1) (by simp) (by omega) (by unfold maxLen; omega) (by simp) (by simp) (by simp) (by simp) ?_
    intro vb kv2 w7 w8 H
    refine ⟨.inl rfl, ?_⟩
    simp [f9]
    refine st_h 3 H rfl (o := 1) (v := kv2) (by simp [f9]) (by simp) (by simp) (own_one (H.own 5 rfl)) ?_
    intro w9 H
    refine ⟨.inl rfl, ?_⟩
    have srd := H.rd 4 rfl
    have hg := srd.gi i hi
    have hp := srd.some (by omega)
    simp [f0, f10, f12, sS, sL, hi, hg, hp]
    obtain ⟨hY, hsz, up, up2⟩ := H.yqUp h
    refine call_h (ppart_c hY (fun k hk => by have := hG k hk; omega) (k1 : Int) (gi s i) hg0 hg4) (by simp [f0]) ?_
    rintro r w10 ⟨u, rfl, hrd1, hrd2⟩
    rw [← hO1] at hrd1 hrd2 ⊢
    simp only at hrd1 hrd2 ⊢
    replace H := up2 _ _ _ _ hrd1 hrd2
    simp
    by_cases he : er ≠ 0
    · rw [if_pos he] at hnx
      rw [hst (by rw [hnx]; exact he) s.length (by omega), hnx]
      refine ite_r (t := true) (by simp [he]) (fun _ => ?_) (fun h => by cases h)
      refine stAll_h 2 H rfl (v := planV 0 (.slice none 0 0)) (by simp [f6]) (by simp [planV]) rfl rfl (by rw [hpn]; simp) ?_
      intro w7 H
      rw [hpn] at H
      refine ⟨.inl rfl, ?_⟩
      obtain ⟨hc, hj, _, _⟩ := blk2 (H.blk 2 rfl)
      simp [f6, hc, hj, he]
      exact ⟨hj, plan_badY h ((((((H.drop 2).drop 2).drop 2).drop 2).drop 2).drop 2)⟩
    obtain rfl : er = 0 := by omega
    rw [if_neg (by simp)] at hnx
    obtain rfl : e3 = 0 := hoe rfl
    rw [hnx]
    refine ite_r (t := false) (by simp) (fun h => by cases h) (fun _ => ?_)
    refine app_h slTI 6 H rfl (H.rd 7 rfl) (by simp [intsV]) (intsV_one _) (by omega) (by unfold maxLen; omega) (by simp) (by simp) ?_
    intro v' w10 H
    refine ⟨.inl rfl, ?_⟩
    replace H := H.drop 7
    have hw1 : IntKind.i64.wrap ((i : Int) + 1) = ((i + 1 : Nat) : Int) := by rw [wI (by omega) (by omega)]; omega
    simp [-Int.natCast_add, hw1, f0, f6, f9, f10, f12]
    refine ⟨by omega, kv2, ?_⟩
    simp only [intsV_snoc, intsV_app] at H
    simpa using H
  · rintro env w' ⟨f0, f6, f9, f10, f12, hok, kv, H⟩
    simp [f10, f12, sS, sL]
    refine ite_r (t := false) (by simp) (fun h => by cases h) (fun _ => ?_)
    have hok2 := (gTo_ok hok).1
    generalize gTo l s p1 s.length = g at *
    obtain ⟨⟨ks, out, er⟩, p2, e2⟩ := g
    simp only at *
    subst hok hok2
    obtain ⟨hc, hj, hb0, hb1⟩ := blk2 (H.blk 3 rfl)
    simp [f9, hc, hj]
    refine ⟨hj, ?_⟩
    have hkc : kv.cells = #[kv] := by obtain ⟨cap, hv⟩ := (H.rd 5 rfl).is; rw [hv]; rfl
    refine stAll_h 2 H rfl (v := planV O kv) (by simp [f6]) (by simp [planV]) (by rw [plan_cells _ _ hkc]; rfl) rfl (by rw [plan_cells _ _ hkc]; simp; exact own_one (H.own 5 rfl)) ?_
    intro w7 H
    rw [plan_cells _ _ hkc] at H
    refine ⟨.inl rfl, ?_⟩
    obtain ⟨hc, hj, _, _⟩ := blk2 (H.blk 2 rfl)
    simp [f6, hc, hj]
    exact ⟨hj, _, _, rfl, (((H.drop 2).drop 2).drop 2).shutY h⟩

end Go.Proofs.Ytajkofndbeohpaa.VG

/-! ## Parts: plans compared; a known plan. -/
namespace Go.Proofs.Ytajkofndbeohpaa.VG
open Go
set_option linter.unusedSimpArgs false
set_option linter.unusedVariables false

theorem Rd.bound {F : Nat → Prop} {w : World} {v : Value} {n : Nat} {xs : List Value} (h : Rd F w v n xs) : Rd (fun k => F k ∧ k < w.heap.size) w v n xs := by
  refine ⟨h.is, fun hp => ?_, h.cell⟩
  obtain ⟨h1, h2⟩ := h.ptr hp
  have hc := h.cell 0 (xs[0]) (by simp [hp])
  have := World.block_lt_of_cell? w _ hc
  rw [add_block] at this
  exact ⟨h1, h2, this⟩
/-- A writer, and two rows beside it. -/
theorem Hp.wrRows {W w : World} {l : List It} (h : Hp W w l) (j : Nat) {b : Nat} {bs : List Bool} (hj : l[j]? = some (.wr b bs)) (i1 i2 : Nat) {e : TypeId} {n1 n2 : Nat} {v1 v2 : Value} {xs1 xs2 : List Value} (h1 : l[i1]? = some (.own e 1 v1 n1 xs1)) (h2 : l[i2]? = some (.own e 1 v2 n2 xs2)) (hn1 : i1 ≠ j) (hn2 : i2 ≠ j) :
    ∃ F G, Wr w F b bs ∧ Rd G w v1 n1 xs1 ∧ Rc G w v2 n2 xs2 ∧ (∀ k, F k → ¬ G k) ∧ (∀ k, G k → k < w.heap.size) ∧ ∀ cs w', WrAfter w F b cs w' → Hp W w' (l.set j (.wr b cs)) := by
  obtain ⟨F, hW, hF, up, rd⟩ := h.wr j hj
  obtain ⟨G1, r1, d1⟩ := rd i1 _ _ _ _ _ hn1 h1
  obtain ⟨G2, r2, d2⟩ := rd i2 _ _ _ _ _ hn2 h2
  have hc := h.rc i2 h2
  refine ⟨F, fun k => (G1 k ∨ G2 k) ∧ k < w.heap.size, hW, r1.bound.mono fun k hk => ⟨.inl hk.1, hk.2⟩, ⟨r2.bound.mono fun k hk => ⟨.inr hk.1, hk.2⟩, hc.cap, hc.len⟩, fun k hk hg => ?_, fun k hk => hk.2, up⟩
  rcases hg.1 with h | h
  · exact d1 k hk h
  · exact d2 k hk h

set_option maxHeartbeats 1000000 in
theorem sameParts_c {F G : Nat → Prop} {w : World} {u v : Value} {ks ms : List Int} (o o' : Int) (h : Rd F w u ks.length (intsV ks)) (g : Rd G w v ms.length (intsV ms)) (hl : ks.length ≤ maxLen) :
    Calls Try.prog 36 [planV o u, planV o' v].toArray w (Ret fun r w' => r = .bool (decide (o = o') && ks == ms) ∧ Mod none' w w') := by
  refine F_sound c36 (by simp [fc36]) ?_
  have hu : u.cells = #[u] := by obtain ⟨cap, hv⟩ := h.is; rw [hv]; rfl
  have hv : v.cells = #[v] := by obtain ⟨cap, hv⟩ := g.is; rw [hv]; rfl
  simp [fc36, s36]
  refine box_h (planV o u) (Hp.nil w) (by simp) ?_
  intro b w1 H M1
  refine ⟨.inl rfl, ?_⟩
  simp
  refine box_h (planV o' v) H (by simp) ?_
  intro c w2 H M2
  refine ⟨.inl rfl, ?_⟩
  rw [plan_cells _ _ hu, plan_cells _ _ hv] at H
  obtain ⟨_, _, b0, b1⟩ := blk2 (H.blk 0 rfl)
  obtain ⟨_, _, c0, c1⟩ := blk2 (H.blk 1 rfl)
  simp [b0, b1, c0, c1]
  by_cases ho : o = o'
  · refine ifg_r (t := true) (by simp [ho]) (fun _ => ?_) (fun h => (h rfl).elim)
    simp [ho, b1, c1]
    refine callm (sameInts_c (h.at H.mod) (g.at H.mod) hl) (by simp (disch := omega) [wI, wU, tmod_nn, tdiv_nn, env0_0, env0_1, env0_2, env0_3, env0_4, env0_5, -env0_apply, ho, b1, c1]) ?_
    intro w' M'
    replace H := H.same M'
    simp [ho]
    exact H.mod
  · refine ifg_r (t := false) (by simp [ho]) (fun h => by cases h) (fun _ => ?_)
    simp [ho]
    exact H.mod

theorem small_c {w : World} {G F : Nat → Prop} {kv v : Value} {ks l : List Int} (o : Int) (h : Rd G w kv ks.length (intsV ks)) (g : Rd F w v l.length (intsV l)) :
    Calls Try.prog 13 [planV o kv, v].toArray w (Ret fun r w' => r = .bool (decide (ks.length ≤ 300) && decide (l.length ≤ 400)) ∧ Mod none' w w') := by
  refine F_sound c13 (by simp [fc13]) ?_
  obtain ⟨hS, hL⟩ := h.sl
  obtain ⟨gS, gL⟩ := g.sl
  have hu : kv.cells = #[kv] := by obtain ⟨cap, hv⟩ := h.is; rw [hv]; rfl
  simp [fc13, s13]
  refine box_h (planV o kv) (Hp.nil w) (by simp) ?_
  intro b w1 H M1
  refine ⟨.inl rfl, ?_⟩
  rw [plan_cells _ _ hu] at H
  obtain ⟨_, _, b0, b1⟩ := blk2 (H.blk 0 rfl)
  simp [b0, b1, hS, hL, gS, gL]
  refine ⟨?_, H.mod⟩
  rw [Bool.eq_iff_iff]; simp; omega

end Go.Proofs.Ytajkofndbeohpaa.VG

/-! ## Parts: a known plan. -/
namespace Go.Proofs.Ytajkofndbeohpaa.VG
open Go
set_option linter.unusedSimpArgs false
set_option linter.unusedVariables false

set_option maxRecDepth 10000 in
theorem kB : mayB 1 [0, 31] 4 1 = true ∧ rightB 4 1 [0, 1, -2] = true := by decide
def kBits : List Bool := [false, false, false, true, false, false, false, false, false, true, true, true, true, true, true, false, false, false, true, false, false, true, true, false]
set_option maxRecDepth 10000 in
theorem kP : putB 1 [0, 31] 4 1 [0, 1, -2] = kBits := by decide
set_option maxRecDepth 10000 in
theorem kC : costP 1 [0, 31] 4 1 [0, 1, -2] = 24 := by decide

set_option maxRecDepth 10000 in
theorem kG : getP (packB kBits) 0 0 4 1 = ((1, [0, 31], [0, 1, -2], 0), 24, 0) := by decide

set_option maxHeartbeats 4000000 in
theorem pknown_c {w : World} : Calls Try.prog 12 [].toArray w (Ret fun r w' => r = .bool true ∧ Mod none' w w') := by
  refine F_sound c12 (by simp [fc12]) ?_
  simp [fc12, s12]
  obtain ⟨i2, hi2, hz2⟩ : ∃ i, Try.prog.info? 24 = some i ∧ i.zero = some (planV 0 (.slice none 0 0)) := ⟨_, rfl, rfl⟩
  have hpn : (planV 0 (.slice none 0 0)).cells = #[.int .i64 0, .slice none 0 0] := plan_cells 0 _ rfl
  refine bs_h slTI (([0, 31] : List Int).map fun n => .int .i64 n) (Hp.nil w) rfl (by decide) (by simp) (by simp [Value.cells]) ?_
  intro kv w1 H M1
  rw [flat_ints] at H
  refine ⟨.inl rfl, ?_⟩
  have hkc : kv.cells = #[kv] := by obtain ⟨cap, hv⟩ := (H.rd 0 rfl).is; rw [hv]; rfl
  simp [hkc]
  refine ⟨⟨by simp [putAt, Value.cells], rfl⟩, ?_⟩
  refine alloc_h H hi2 hz2 ?_
  intro t w2 H M2
  rw [hpn] at H
  refine ⟨.inl rfl, ?_⟩
  simp
  refine stAll_h 1 H rfl (v := planV 1 kv) (by simp) (by simp [planV, putAt, show (Value.int .i64 1).cells = #[.int .i64 1] from rfl, hkc]) (by rw [plan_cells _ _ hkc]; rfl) rfl (by rw [plan_cells _ _ hkc]; simp; exact own_one (H.own 0 rfl)) ?_
  intro w3 H
  rw [plan_cells _ _ hkc] at H
  refine ⟨.inl rfl, ?_⟩
  refine bs_h slTI (([0, 1, -2] : List Int).map fun n => .int .i64 n) H rfl (by decide) (by simp) (by simp [Value.cells]) ?_
  intro lv w4 H M4
  rw [flat_ints] at H
  refine ⟨.inl rfl, ?_⟩
  simp
  refine wrbox_h H (by simp) ?_
  intro b w5 H M5
  refine ⟨.inl rfl, ?_⟩
  obtain ⟨hc, hj, _, _⟩ := blk2 (H.blk 1 rfl)
  simp [hc]
  refine ⟨hj, ?_⟩
  obtain ⟨F, G, hW, r1, r2, hd, hG, up⟩ := H.wrRows 3 rfl 0 2 rfl rfl (by decide) (by decide)
  refine call_h (pput_yes (ks := [0, 31]) (l := [0, 1, -2]) 1 4 1 hW r1 (by decide) r2 (by decide) hd hG (by decide) kB) (by simp [planV]) ?_
  rintro r w6 ⟨rfl, A⟩
  rw [kP, List.nil_append] at A
  replace H := up _ _ A
  simp
  have hkl : kBits.length = 24 := rfl
  obtain ⟨F, hW, _⟩ := H.wr 3 rfl
  refine call_h (bytes_c hW (by rw [hkl]; decide)) (by simp) ?_
  intro vb w7 A
  replace H := H.newBytes A
  simp
  refine call_h (new_c (H.rd 4 rfl) (packB_fits _) (by rw [packB_length, hkl]; decide)) (by simp) ?_
  rintro r w8 ⟨c, G, rfl, hR, M8, hG⟩
  replace H := H.newRr hR M8 hG
  simp
  refine ite_r (t := false) (by simp) (fun h => by cases h) (fun _ => ?_)
  obtain ⟨F, hR, _, up⟩ := H.rrF 5 rfl
  refine call_h (pget_c hR 4 1) (by simp) ?_
  rw [kG]
  rintro r w9 ⟨qv, mv, rfl, q1, q2⟩
  replace H := up _ _ _ _ q1 q2
  simp only at H
  have hqc : qv.cells = #[qv] := by obtain ⟨cap, hv⟩ := (H.rd 6 rfl).is; rw [hv]; rfl
  simp
  refine alloc_h H hi2 hz2 ?_
  intro t2 w10 H M10
  rw [hpn] at H
  refine ⟨.inl rfl, ?_⟩
  refine stAll_h 8 H rfl (v := planV 1 qv) (by simp) (by simp) (by rw [plan_cells _ _ hqc]; rfl) rfl (by rw [plan_cells _ _ hqc]; simp; exact own_one (H.own 6 rfl)) ?_
  intro w11 H
  rw [plan_cells _ _ hqc] at H
  refine ⟨.inl rfl, ?_⟩
  obtain ⟨hc, hj, _, _⟩ := blk2 (H.blk 1 rfl)
  obtain ⟨hc2, hj2, _, _⟩ := blk2 (H.blk 8 rfl)
  simp [hc, hc2]
  refine ⟨hj, hj2, ?_⟩
  refine ifg_r (t := true) (by simp) (fun _ => ?_) (fun h => (h rfl).elim)
  refine callm (sameParts_c (ks := [0, 31]) (ms := [0, 31]) 1 1 (H.rd 0 rfl) (H.rd 6 rfl) (by unfold maxLen; decide)) (by simp (disch := omega) [wI, wU, tmod_nn, tdiv_nn, env0_0, env0_1, env0_2, env0_3, env0_4, env0_5, -env0_apply, planV]) ?_
  intro w' M'
  replace H := H.same M'
  simp
  refine ifg_r (t := true) (by simp) (fun _ => ?_) (fun h => (h rfl).elim)
  refine callm (sameInts_c (l := [0, 1, -2]) (m := [0, 1, -2]) (H.rd 2 rfl) (H.rd 7 rfl) (by unfold maxLen; decide)) (by simp (disch := omega) [wI, wU, tmod_nn, tdiv_nn, env0_0, env0_1, env0_2, env0_3, env0_4, env0_5, -env0_apply]) ?_
  intro w' M'
  replace H := H.same M'
  simp
  refine ifg_r (t := true) (by simp) (fun _ => ?_) (fun h => (h rfl).elim)
  obtain ⟨F, hW, _⟩ := H.wr 3 rfl
  refine callp (len_c hW) (by simp) ?_
  obtain ⟨hc, hj, _, _⟩ := blk2 (H.blk 1 rfl)
  simp [hkl, hc]
  refine ⟨hj, ?_⟩
  refine ifg_r (t := true) (by simp) (fun _ => ?_) (fun h => (h rfl).elim)
  refine callm (cost_p (ks := [0, 31]) (l := [0, 1, -2]) 1 4 1 (H.rd 0 rfl) (by decide) (H.rc 2 rfl) (by decide)) (by simp (disch := omega) [wI, wU, tmod_nn, tdiv_nn, env0_0, env0_1, env0_2, env0_3, env0_4, env0_5, -env0_apply, planV]) ?_
  intro w' M'
  replace H := H.same M'
  rw [kC]
  simp
  refine ifg_r (t := true) (by simp) (fun _ => ?_) (fun h => (h rfl).elim)
  obtain ⟨F, hW, _⟩ := H.wr 3 rfl
  refine callp (len_c hW) (by simp) ?_
  simp [hkl]
  refine ifg_r (t := true) (by simp) (fun _ => ?_) (fun h => (h rfl).elim)
  refine call_h (sizes_c 1 4 1) (by simp) ?_
  intro sv w12 HR
  rw [show szS 1 4 1 = [1, 2] by decide] at HR
  replace H := H.join HR
  simp
  refine ifg_r (t := true) (by simp) (fun _ => ?_) (fun h => (h rfl).elim)
  refine bs_h slTI (([1, 2] : List Int).map fun n => .int .i64 n) H rfl (by decide) (by simp) (by simp [Value.cells]) ?_
  intro zv w13 H M13
  rw [flat_ints] at H
  refine ⟨.inl rfl, ?_⟩
  simp
  refine ifg_r (t := true) (by simp) (fun _ => ?_) (fun h => (h rfl).elim)
  refine callm (sameInts_c (l := [1, 2]) (m := [1, 2]) (H.rd 9 rfl) (H.rd 10 rfl) (by unfold maxLen; decide)) (by simp (disch := omega) [wI, wU, tmod_nn, tdiv_nn, env0_0, env0_1, env0_2, env0_3, env0_4, env0_5, -env0_apply]) ?_
  intro w' M'
  replace H := H.same M'
  obtain ⟨hc, hj, _, _⟩ := blk2 (H.blk 1 rfl)
  simp [hc]
  refine ⟨hj, ?_⟩
  refine ifg_r (t := true) (by simp) (fun _ => ?_) (fun h => (h rfl).elim)
  refine callm (may_c (ks := [0, 31]) 1 5 1 (H.rd 0 rfl) (by decide)) (by simp (disch := omega) [wI, wU, tmod_nn, tdiv_nn, env0_0, env0_1, env0_2, env0_3, env0_4, env0_5, -env0_apply, planV]) ?_
  intro w' M'
  replace H := H.same M'
  rw [show mayB 1 [0, 31] 5 1 = false by decide]
  simp
  exact H.mod

end Go.Proofs.Ytajkofndbeohpaa.VG
