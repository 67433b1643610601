/-
  Parts: a plan and a row got from bits, by the program.
-/
import Derived.Test.YtajkofndbeohpaaPg
namespace Go.Proofs.Ytajkofndbeohpaa.VG
open Go
set_option linter.unusedSimpArgs false
set_option linter.unusedVariables false

def gTo (l : List Nat) (s : List Int) (p0 : Nat) : Nat → (List Int × List Int × Int) × Nat × Int
  | 0 => (([], [], 0), p0, 0)
  | i + 1 => if (gTo l s p0 i).1.2.2 ≠ 0 then gTo l s p0 i
    else if (oneQ l (gTo l s p0 i).2.1 (gi s i)).1.2 ≠ 0 then (([], [], (oneQ l (gTo l s p0 i).2.1 (gi s i)).1.2), (oneQ l (gTo l s p0 i).2.1 (gi s i)).2)
    else (((gTo l s p0 i).1.1 ++ [((rGet l (gTo l s p0 i).2.1 0 5).1 : Int)], (gTo l s p0 i).1.2.1 ++ (oneQ l (gTo l s p0 i).2.1 (gi s i)).1.1, 0), (oneQ l (gTo l s p0 i).2.1 (gi s i)).2)
def getP (l : List Nat) (p : Nat) (e n wm : Int) : (Int × List Int × List Int × Int) × Nat × Int :=
  if rowB n wm = false then ((0, [], [], 1), p, e)
  else if (rGet l p e 4).2.2 ≠ 0 then ((0, [], [], (rGet l p e 4).2.2), (rGet l p e 4).2)
  else if szB (rGet l p e 4).1 n wm = false then ((0, [], [], 2), (rGet l p e 4).2)
  else if (gTo l (szS (rGet l p e 4).1 n wm) (rGet l p e 4).2.1 (szS (rGet l p e 4).1 n wm).length).1.2.2 ≠ 0 then
    ((0, [], [], (gTo l (szS (rGet l p e 4).1 n wm) (rGet l p e 4).2.1 (szS (rGet l p e 4).1 n wm).length).1.2.2), (gTo l (szS (rGet l p e 4).1 n wm) (rGet l p e 4).2.1 (szS (rGet l p e 4).1 n wm).length).2)
  else (((rGet l p e 4).1, (gTo l (szS (rGet l p e 4).1 n wm) (rGet l p e 4).2.1 (szS (rGet l p e 4).1 n wm).length).1), (gTo l (szS (rGet l p e 4).1 n wm) (rGet l p e 4).2.1 (szS (rGet l p e 4).1 n wm).length).2)

theorem getF_ok (l : List Nat) (K : Nat) : ∀ n p out, (getF l K n p out).1.2 = 0 → (getF l K n p out).2.2 = 0
  | 0, p, out, _ => rfl
  | n + 1, p, out, h => by
    simp only [getF] at h ⊢
    split
    · rename_i h1; rw [if_pos h1] at h; exact absurd h h1
    · rename_i h1; rw [if_neg h1] at h; exact getF_ok l K n _ _ h
theorem getS_ok {l : List Nat} {p : Nat} {k n : Int} (h : (getS l p 0 k n).1.2 = 0) : (getS l p 0 k n).2.2 = 0 := by
  unfold getS at *
  split
  · rfl
  · rename_i h1
    rw [if_neg h1, if_neg (by simp)] at h
    rw [if_neg (by simp)]
    exact getF_ok _ _ _ _ _ h
theorem partQ_ok {l : List Nat} {p : Nat} {k size : Int} (h : (partQ l p k size).1.2 = 0) : (partQ l p k size).2.2 = 0 := by
  unfold partQ at *
  split
  · rename_i h1
    rw [if_pos h1] at h
    split
    · rename_i h2; rw [if_pos h2] at h; exact getS_ok h
    · rfl
  · rename_i h1
    rw [if_neg h1] at h
    split
    · rename_i h2; rw [if_pos h2] at h; exact absurd h h2
    · rename_i h2
      split
      · simpa using h2
      · simpa using h2
theorem oneQ_ok {l : List Nat} {p : Nat} {size : Int} (h : (oneQ l p size).1.2 = 0) : (oneQ l p size).2.2 = 0 := by
  unfold oneQ at *
  split
  · rename_i h1; rw [if_pos h1] at h; exact absurd h h1
  · rename_i h1; rw [if_neg h1] at h; exact partQ_ok h
theorem partQ_len (l : List Nat) (p : Nat) (k size : Int) (h : size ≤ 4096) : (partQ l p k size).1.1.length ≤ 4194304 := by
  unfold partQ
  split
  · split
    · exact getS_len ..
    · simp
  · split
    · simp
    · split
      · simp
      · rw [sgTo_len]; omega
theorem oneQ_len (l : List Nat) (p : Nat) (size : Int) (h : size ≤ 4096) : (oneQ l p size).1.1.length ≤ 4194304 := by
  unfold oneQ
  split
  · simp
  · exact partQ_len _ _ _ _ h
theorem gTo_stick {l : List Nat} {s : List Int} {p0 i : Nat} (h : (gTo l s p0 i).1.2.2 ≠ 0) : ∀ j, i ≤ j → gTo l s p0 j = gTo l s p0 i
  | 0, hj => by obtain rfl : i = 0 := by omega
                rfl
  | j + 1, hj => by
    by_cases he : i = j + 1
    · subst he; rfl
    · have ih := gTo_stick h j (by omega)
      rw [gTo, if_pos (by rw [ih]; exact h), ih]
theorem gTo_len (l : List Nat) (s : List Int) (p0 : Nat) (hs : ∀ i, i < s.length → gi s i ≤ 4096) : ∀ i, i ≤ s.length → (gTo l s p0 i).1.1.length ≤ i ∧ (gTo l s p0 i).1.2.1.length ≤ i * 4194304
  | 0, _ => by simp [gTo]
  | i + 1, hi => by
    have ih := gTo_len l s p0 hs i (by omega)
    have h1 := oneQ_len l (gTo l s p0 i).2.1 (gi s i) (hs i (by omega))
    simp only [gTo]
    split
    · omega
    split
    · simp
    · simp; omega
theorem gTo_ok {l : List Nat} {s : List Int} {p0 : Nat} : ∀ {i}, (gTo l s p0 i).1.2.2 = 0 → (gTo l s p0 i).2.2 = 0 ∧ (gTo l s p0 i).1.1.length = i
  | 0, _ => ⟨rfl, rfl⟩
  | i + 1, h => by
    simp only [gTo] at h ⊢
    split
    · rename_i h1; rw [if_pos h1] at h; exact absurd h h1
    rename_i h1
    rw [if_neg h1] at h
    have ih := gTo_ok (l := l) (s := s) (p0 := p0) (i := i) (by simpa using h1)
    split
    · rename_i h2; rw [if_pos h2] at h; exact absurd h h2
    · rename_i h2
      refine ⟨oneQ_ok (by simpa using h2), by simp [ih.2]⟩

/-- A plan, a row and an error made; the reader carried on. -/
def PlanRd (w : World) (F : Nat → Prop) (b : Nat) (l : List Nat) (r : Value) (s : (Int × List Int × List Int × Int) × Nat × Int) (w' : World) : Prop :=
  ∃ kv u, r = .tuple #[planV s.1.1 kv, u, .int .i64 s.1.2.2.2] ∧ RrF w F b l s.2.1 s.2.2 w' ∧ ∃ Gs, Sep w.heap.size w' [.own 3 1 kv s.1.2.1.length (intsV s.1.2.1), .own 3 1 u s.1.2.2.1.length (intsV s.1.2.2.1)] Gs

theorem blk2 {w : World} {t : Nat} {a c : Value} (h : ∀ o, w.cell? ⟨t, o, none⟩ = (#[a, c] : Array Value)[o]?) : (cellsFrom w ⟨t, 0, none⟩ 0 2).toArray = #[a, c] ∧ (∀ j, j < 2 → (w.cell? ⟨t, j, none⟩).isSome = true) ∧ w.cell? ⟨t, 0, none⟩ = some a ∧ w.cell? ⟨t, 1, none⟩ = some c := by
  have h0 : w.cell? ⟨t, 0, none⟩ = some a := by rw [h 0]; rfl
  have h1 : w.cell? ⟨t, 1, none⟩ = some c := by rw [h 1]; rfl
  refine ⟨cells_blk h 2 rfl, fun j hj => ?_, h0, h1⟩
  obtain rfl | rfl : j = 0 ∨ j = 1 := by omega
  · rw [h0]; rfl
  · rw [h1]; rfl
theorem plan_cells (o : Int) (kv : Value) (h : kv.cells = #[kv]) : (planV o kv).cells = #[.int .i64 o, kv] := by simp [planV, Value.cells, h, putAt]
theorem plan_bad {w w2 : World} {F : Nat → Prop} {b : Nat} {l : List Nat} {p : Nat} {e er : Int} (H : Hp (bare w) w2 [.rq F b l p e, .old w F]) : PlanRd w F b l (.tuple #[.agg #[.int .i64 0, .slice none 0 0], .slice none 0 0, .int .i64 er]) ((0, [], [], er), p, e) w2 :=
  ⟨_, _, rfl, H.nilS.nilS.shutR⟩

set_option maxHeartbeats 4000000 in
theorem pget_c {w : World} {F : Nat → Prop} {b : Nat} {l : List Nat} {p : Nat} {e : Int} (h : Rr w F b l p e) (n wm : Int) :
    Calls Try.prog 34 [.pointer (some ⟨b, 0, none⟩), .int .i64 n, .int .i64 wm].toArray w (Ret fun r w' => PlanRd w F b l r (getP l p e n wm) w') := by
  refine F_sound c34 (by simp [fc34]) ?_
  have H := Hp.openR h
  simp [fc34, s34]
  obtain ⟨i2, hi2, hz2⟩ : ∃ i, Try.prog.info? 24 = some i ∧ i.zero = some (planV 0 (.slice none 0 0)) := ⟨_, rfl, rfl⟩
  refine alloc_h H hi2 hz2 ?_
  intro t w1 H M1
  refine ⟨.inl rfl, ?_⟩
  have hpn : (planV 0 (.slice none 0 0)).cells = #[.int .i64 0, .slice none 0 0] := plan_cells 0 _ rfl
  rw [hpn] at H
  simp
  refine callp (prow_c n wm) (by simp) ?_
  unfold getP
  by_cases hr : rowB n wm = true
  rotate_left
  · simp [hr]
    refine ite_r (t := true) (by simp [hr]) (fun _ => ?_) (fun h => by cases h)
    refine stAll_h 2 H rfl (v := planV 0 (.slice none 0 0)) (by simp) (by simp [planV]) rfl rfl (by rw [hpn]; simp) ?_
    intro w2 H
    rw [hpn] at H
    refine ⟨.inl rfl, ?_⟩
    obtain ⟨hc, hj, _, _⟩ := blk2 (H.blk 2 rfl)
    simp [hc, hj]
    exact ⟨hj, plan_bad (H.drop 2)⟩
  simp [hr]
  refine ite_r (t := false) (by simp [hr]) (fun h => by cases h) (fun _ => ?_)
  obtain ⟨hR, up⟩ := H.rqUp 0 rfl
  refine call_h (get_c hR 4) (by simp) ?_
  rintro r w2 ⟨rfl, A⟩
  replace H := up _ _ _ A
  have hO := rGet_lt l p e 4
  rw [show ((4 : Nat) : Int) = 4 from rfl] at hO
  generalize rGet l p e 4 = g at *
  obtain ⟨O, p1, e1⟩ := g
  simp only at *
  obtain ⟨hR, up⟩ := H.rqUp 0 rfl
  have hwO : IntKind.i64.wrap (O : Int) = O := wI (by omega) (by omega)
  simp [hwO]
  refine callp (err_c hR) (by simp) ?_
  simp
  by_cases he : e1 ≠ 0
  · refine ite_r (t := true) (by simp [he]) (fun _ => ?_) (fun h => by cases h)
    refine callp (err_c hR) (by simp) ?_
    refine stAll_h 2 H rfl (v := planV 0 (.slice none 0 0)) (by simp) (by simp [planV]) rfl rfl (by rw [hpn]; simp) ?_
    intro w3 H
    rw [hpn] at H
    refine ⟨.inl rfl, ?_⟩
    obtain ⟨hc, hj, _, _⟩ := blk2 (H.blk 2 rfl)
    simp [hc, hj, he]
    exact ⟨hj, plan_bad (H.drop 2)⟩
  obtain rfl : e1 = 0 := by omega
  refine ite_r (t := false) (by simp) (fun h => by cases h) (fun _ => ?_)
  refine call_h (sizes_c (O : Int) n wm) (by simp) ?_
  intro sv w3 HR
  replace H := H.join HR
  obtain ⟨sS, sL⟩ := (H.rd 3 rfl).sl
  have hle := szS_le O n wm
  have hnil := @szS_nil O n wm
  have hlz : (szS O n wm).length = 0 ↔ szB O n wm = false := by rw [← hnil]; exact List.length_eq_zero_iff
  have hfact := @sz_fact O n wm
  generalize szS O n wm = s at *
  simp [sS, sL]
  by_cases hB : szB (O : Int) n wm = true
  rotate_left
  · have h0 := hlz.2 (by simpa using hB)
    refine ite_r (t := true) (by simp; rw [← List.length_eq_zero_iff]; omega) (fun _ => ?_) (fun h => by cases h)
    refine stAll_h 2 H rfl (v := planV 0 (.slice none 0 0)) (by simp) (by simp [planV]) rfl rfl (by rw [hpn]; simp) ?_
    intro w4 H
    rw [hpn] at H
    refine ⟨.inl rfl, ?_⟩
    obtain ⟨hc, hj, _, _⟩ := blk2 (H.blk 2 rfl)
    simp [hc, hj, hB]
    exact ⟨hj, plan_bad ((H.drop 2).drop 2)⟩
  obtain ⟨hge, hat, hpos⟩ := hfact hB
  refine ite_r (t := false) (by simp; rw [← List.length_eq_zero_iff]; omega) (fun h => by cases h) (fun _ => ?_)
  simp [hB]
  refine ⟨rfl, ?_⟩
  refine alloc_h H hi2 hz2 ?_
  intro t2 w4 H M4
  rw [hpn] at H
  refine ⟨.inl rfl, ?_⟩
  simp
  refine stAll_h 4 H rfl (v := planV O (.slice none 0 0)) (by simp) (by simp [planV, putAt, Value.cells]) rfl rfl (by rw [plan_cells _ _ rfl]; simp) ?_
  intro w5 H
  rw [plan_cells _ _ rfl] at H
  refine ⟨.inl rfl, ?_⟩
  simp [sS, sL]
  refine for_r s.length (fun i env' w' => env' 0 = .pointer (some ⟨b, 0, none⟩) ∧ env' 6 = .pointer (some ⟨t, 0, none⟩) ∧ env' 11 = .pointer (some ⟨t2, 0, none⟩) ∧ env' 42 = sv ∧ env' 43 = .int .i64 s.length ∧ env' 44 = .int .i64 i ∧ (gTo l s p1 i).1.2.2 = 0 ∧
    ∃ kv, Hp (bare w) w' [.rq F b l (gTo l s p1 i).2.1 0, .old w F, .blk t #[.int .i64 0, .slice none 0 0], .own 3 1 sv s.length (intsV s), .blk t2 #[.int .i64 O, kv], .own 3 1 kv (gTo l s p1 i).1.1.length (intsV (gTo l s p1 i).1.1), .own 3 1 (env' 12) (gTo l s p1 i).1.2.1.length (intsV (gTo l s p1 i).1.2.1)]) ?_ ?_ ?_
  · simp [sL, gTo]
    exact ⟨_, H.nilS.nilS⟩
  · rintro i env w' hi ⟨f0, f6, f11, f42, f43, f44, hok, kv, H⟩
    simp [f43, f44]
    refine ite_r (t := true) (by simp; omega) (fun _ => ?_) (fun h => by cases h)
    simp [wp_blk]
    have hst := gTo_stick (l := l) (s := s) (p0 := p1) (i := i + 1)
    have hnx : gTo l s p1 (i + 1) = if (oneQ l (gTo l s p1 i).2.1 (gi s i)).1.2 ≠ 0 then (([], [], (oneQ l (gTo l s p1 i).2.1 (gi s i)).1.2), (oneQ l (gTo l s p1 i).2.1 (gi s i)).2)
      else (((gTo l s p1 i).1.1 ++ [((rGet l (gTo l s p1 i).2.1 0 5).1 : Int)], (gTo l s p1 i).1.2.1 ++ (oneQ l (gTo l s p1 i).2.1 (gi s i)).1.1, 0), (oneQ l (gTo l s p1 i).2.1 (gi s i)).2) := by rw [gTo, if_neg (by simpa using hok)]
    have hln := gTo_len l s p1 (fun i hi => (hge i hi).2) i (by omega)
    generalize gTo l s p1 i = g at *
    obtain ⟨⟨ks, out, er⟩, p2, e2⟩ := g
    simp only at *
    subst hok
    have srd := H.rd 3 rfl
    have hg := srd.gi i hi
    have hp := srd.some (by omega)
    obtain ⟨hg0, hg4⟩ := hge i hi
    simp [f42, f44, sS, sL, hi, hg, hp]
    obtain ⟨hR, up⟩ := H.rqF 0 rfl
    refine call_h (pone_c hR (gi s i) hg0 hg4) (by simp [f0]) ?_
    rintro r w6 ⟨k', u, rfl, hk', hrd1, hrd2⟩
    replace H := up _ _ _ _ hrd1 hrd2
    have hol := oneQ_len l p2 (gi s i) hg4
    have hoe := @oneQ_ok l p2 (gi s i)
    generalize oneQ l p2 (gi s i) = q at *
    obtain ⟨⟨row, er⟩, p3, e3⟩ := q
    simp only at *
    simp
    by_cases he : er ≠ 0
    · rw [if_pos he] at hnx
      rw [hst (by rw [hnx]; exact he) s.length (by omega), hnx]
      refine ite_r (t := true) (by simp [he]) (fun _ => ?_) (fun h => by cases h)
      refine stAll_h 2 H rfl (v := planV 0 (.slice none 0 0)) (by simp [f6]) (by simp [planV]) rfl rfl (by rw [hpn]; simp) ?_
      intro w7 H
      rw [hpn] at H
      refine ⟨.inl rfl, ?_⟩
      obtain ⟨hc, hj, _, _⟩ := blk2 (H.blk 2 rfl)
      simp [f6, hc, hj, he]
      exact ⟨hj, plan_bad ((((((H.drop 2).drop 2).drop 2).drop 2).drop 2).drop 2)⟩
    obtain rfl : er = 0 := by omega
    rw [if_neg (by simp)] at hnx
    obtain rfl : e3 = 0 := hoe rfl
    rw [hnx]
    obtain rfl : k' = (rGet l p2 0 5).1 := hk' rfl
    generalize ((rGet l p2 0 5).1 : Int) = k1 at *
    refine ite_r (t := false) (by simp) (fun h => by cases h) (fun _ => ?_)
    obtain ⟨_, _, _, hb1⟩ := blk2 (H.blk 4 rfl)
    simp [f11, hb1]
    refine app1_h slTI 5 H rfl (u := .int .i64 k1) (by simp) (by omega) (by unfold maxLen; omega) (by simp) (by simp) (by simp) (by simp) ?_
    intro vb kv2 w7 w8 H
    refine ⟨.inl rfl, ?_⟩
    simp [f11]
    refine st_h 4 H rfl (o := 1) (v := kv2) (by simp [f11]) (by simp) (by simp) (own_one (H.own 5 rfl)) ?_
    intro w9 H
    refine ⟨.inl rfl, ?_⟩
    refine app_h slTI 6 H rfl (H.rd 7 rfl) (by simp [intsV]) (intsV_one _) (by omega) (by unfold maxLen; omega) (by simp) (by simp) ?_
    intro v' w10 H
    refine ⟨.inl rfl, ?_⟩
    replace H := H.drop 7
    rw [intsV_snoc, intsV_app] at H
    have hw1 : IntKind.i64.wrap ((i : Int) + 1) = ((i + 1 : Nat) : Int) := by rw [wI (by omega) (by omega)]; omega
    simp [-Int.natCast_add, hw1, f0, f6, f11, f42, f43, f44]
    refine ⟨by omega, kv2, ?_⟩
    simpa using H
  · rintro env w' ⟨f0, f6, f11, f42, f43, f44, hok, kv, H⟩
    simp [f43, f44]
    refine ite_r (t := false) (by simp) (fun h => by cases h) (fun _ => ?_)
    have hok2 := (gTo_ok hok).1
    generalize gTo l s p1 s.length = g at *
    obtain ⟨⟨ks, out, er⟩, p2, e2⟩ := g
    simp only at *
    subst hok hok2
    obtain ⟨hc, hj, hb0, hb1⟩ := blk2 (H.blk 4 rfl)
    simp [f11, hc, hj]
    refine ⟨hj, ?_⟩
    have hkc : kv.cells = #[kv] := by obtain ⟨cap, hv⟩ := (H.rd 5 rfl).is; rw [hv]; rfl
    refine stAll_h 2 H rfl (v := planV O kv) (by simp [f6]) (by simp [planV]) (by rw [plan_cells _ _ hkc]; rfl) rfl (by rw [plan_cells _ _ hkc]; simp; exact own_one (H.own 5 rfl)) ?_
    intro w7 H
    rw [plan_cells _ _ hkc] at H
    refine ⟨.inl rfl, ?_⟩
    obtain ⟨hc, hj, _, _⟩ := blk2 (H.blk 2 rfl)
    simp [f6, hc, hj]
    exact ⟨hj, _, _, rfl, (((H.drop 2).drop 2).drop 2).shutR⟩

end Go.Proofs.Ytajkofndbeohpaa.VG
