/-
  Parts: got from bits, by the document.
-/
import Derived.Test.YtajkofndbeohpaaPh
namespace Go.Proofs.Ytajkofndbeohpaa.VG
open Go
set_option linter.unusedSimpArgs false
set_option linter.unusedVariables false

theorem sgTo_stick {l : List Nat} {p : Nat} {e wd : Int} {i : Nat} (h : (sgTo l p e wd i).2.2 ≠ 0) : ∀ j, i ≤ j → (sgTo l p e wd j).2 = (sgTo l p e wd i).2
  | 0, hj => by obtain rfl : i = 0 := by omega
                rfl
  | j + 1, hj => by
    by_cases he : i = j + 1
    · subst he; rfl
    · have ih := sgTo_stick h j (by omega)
      have hs : (sgTo l p e wd (j + 1)).2 = (rSigned l (sgTo l p e wd j).2.1 (sgTo l p e wd j).2.2 wd).2 := rfl
      rw [hs, ih]
      have hg : rGet l (sgTo l p e wd i).2.1 (sgTo l p e wd i).2.2 wd = (0, (sgTo l p e wd i).2) := by unfold rGet; rw [if_pos h]
      simp only [rSigned, hg]

set_option maxHeartbeats 2000000 in
theorem sget_c {w : World} {G : Nat → Prop} {b : Nat} {v : Value} {l : List Nat} {p : Nat} {e : Int} (h : Yr w G b v l p e) (N W : Nat) (hN : N ≤ 4096) (hW : W < 32) :
    Calls Try.prog 77 [.pointer (some ⟨b, 0, none⟩), .int .i64 N, .int .i64 W].toArray w (Ret fun r w' => YrAfter w G b v l (sgTo l p e W N).2.1 (sgTo l p e W N).2.2 w' ∧
      ∃ xs : List Int, ((sgTo l p e W N).2.2 = 0 → xs = (sgTo l p e W N).1) ∧ xs.length ≤ N ∧ ∃ Gs, Sep w.heap.size w' [.own 3 1 r xs.length (intsV xs)] Gs) := by
  refine F_sound c77 (by simp [fc77]) ?_
  have H := Hp.openY h
  simp [fc77, s77]
  refine for_r N (fun i env' w' => env' 0 = .pointer (some ⟨b, 0, none⟩) ∧ env' 1 = .int .i64 N ∧ env' 2 = .int .i64 W ∧ env' 8 = .int .i64 i ∧
    Hp (bare w) w' [.yq v l b (sgTo l p e W i).2.1 (sgTo l p e W i).2.2, .old w (fun k => k = b), .own 3 1 (env' 7) i (intsV (sgTo l p e W i).1)]) ?_ ?_ ?_
  · simp [sgTo]
    exact H.nilS
  · rintro i env w' hi ⟨f0, f1, f2, f8, H⟩
    obtain ⟨hY, hsz, up, _⟩ := H.yqUp h
    obtain ⟨c0, c1, c2, _, _⟩ := hY.sl
    simp [f0, f1, f8, c2]
    have hstick := @sgTo_stick l p e W i
    have hlen := sgTo_len l p e W i
    have hst : sgTo l p e W (i + 1) = ((sgTo l p e W i).1 ++ [(rSigned l (sgTo l p e W i).2.1 (sgTo l p e W i).2.2 W).1], (rSigned l (sgTo l p e W i).2.1 (sgTo l p e W i).2.2 W).2) := rfl
    generalize sgTo l p e W i = st at *
    by_cases he : st.2.2 = 0
    · refine ite_r (t := true) (by simp; omega) (fun _ => ?_) (fun h => by cases h)
      simp [wp_blk]
      refine call_h (ysigned_c hY W (by omega) (by omega)) (by simp [f0, f2]) ?_
      rintro r w3 ⟨rfl, A⟩
      replace H := up _ _ _ A
      generalize rSigned l st.2.1 st.2.2 W = sr at *
      rw [hst]
      refine app1_h slTI 2 H rfl (u := .int .i64 sr.1) (by simp) (by omega) (by unfold maxLen; omega) (by simp) (by simp) (by simp) (by simp) ?_
      intro vb v' w4 w5 H
      refine ⟨.inl rfl, ?_⟩
      have hw1 : IntKind.i64.wrap ((i : Int) + 1) = ((i + 1 : Nat) : Int) := by rw [wI (by omega) (by omega)]; omega
      simp [-Int.natCast_add, hw1, f0, f1, f2, f8]
      rw [intsV_snoc] at H
      exact ⟨by omega, H⟩
    · refine ite_r (t := false) (by simp [he]) (fun h => by cases h) (fun _ => ?_)
      simp
      have hs := hstick he N (by omega)
      rw [hs]
      rw [← hlen] at H
      obtain ⟨q1, q2⟩ := H.shutY h
      exact ⟨q1, st.1, fun h => absurd h he, by omega, q2⟩
  · rintro env w' ⟨f0, f1, f2, f8, H⟩
    obtain ⟨hY, hsz, up, _⟩ := H.yqUp h
    obtain ⟨c0, c1, c2, _, _⟩ := hY.sl
    simp [f0, f1, f8, c2]
    refine ite_r (t := false) (by simp) (fun h => by cases h) (fun _ => ?_)
    simp
    have hlen := sgTo_len l p e W N
    generalize sgTo l p e W N = st at *
    rw [← hlen] at H
    obtain ⟨q1, q2⟩ := H.shutY h
    exact ⟨q1, _, fun _ => rfl, by omega, q2⟩

/-- A row made and an error, the document's reader carried on. -/
def RowYd (w : World) (G : Nat → Prop) (b : Nat) (v : Value) (l : List Nat) (u : Value) (s : (List Int × Int) × Nat × Int) (w' : World) : Prop :=
  YrAfter w G b v l s.2.1 s.2.2 w' ∧ ∃ Gs, Sep w.heap.size w' [.own 3 1 u s.1.1.length (intsV s.1.1)] Gs


set_option maxHeartbeats 2000000 in
theorem ppart_c {w : World} {G : Nat → Prop} {b : Nat} {v : Value} {l : List Nat} {p : Nat} (h : Yr w G b v l p 0) (hG : ∀ k, G k → k < w.heap.size) (k size : Int) (hs0 : 0 ≤ size) (hs1 : size ≤ 4096) :
    Calls Try.prog 61 [.pointer (some ⟨b, 0, none⟩), .int .i64 k, .int .i64 size].toArray w (Ret fun r w' => ∃ u, r = .tuple #[u, .int .i64 (partQ l p k size).1.2] ∧ RowYd w G b v l u (partQ l p k size) w') := by
  refine F_sound c61 (by simp [fc61]) ?_
  have H := Hp.openY h
  have fin : ∀ {w' : World} {p e er}, Hp (bare w) w' [.yq v l b p e, .old w (fun k => k = b)] → RowYd w G b v l (.slice none 0 0) (([], er), p, e) w' := fun H => H.nilS.shutY h
  simp [fc61, s61]
  unfold partQ
  by_cases hk : k = 31
  rotate_left
  · refine ite_r (t := true) (by simp [hk]) (fun _ => ?_) (fun h => by cases h)
    refine callp (rparam2_c k) (by simp) ?_
    by_cases hp : paramB k = true
    · simp [hp]
      refine ite_r (t := false) (by simp) (fun h => by cases h) (fun _ => ?_)
      obtain ⟨hY, hsz, up, up2⟩ := H.yqUp h
      refine call_h (xrget_c hY (fun k hk => hG k hk) k size) (by simp) ?_
      rintro r w2 ⟨⟨u, rfl, hu1, hu2⟩, A⟩
      have H2 := up2 _ _ _ _ A (sep_own hu1 hu2)
      simp [hk]
      exact H2.shutY h
    · simp [hp]
      refine ite_r (t := true) (by simp) (fun _ => ?_) (fun h => by cases h)
      simp [hk]
      exact fin H
  subst hk
  refine ite_r (t := false) (by simp) (fun h => by cases h) (fun _ => ?_)
  obtain ⟨hY, hsz, up, up2⟩ := H.yqUp h
  refine call_h (yget_c hY 5) (by simp) ?_
  rintro r w2 ⟨rfl, A⟩
  replace H := up _ _ _ A
  have hW := rGet_lt l p 0 5
  rw [show ((5 : Nat) : Int) = 5 from rfl] at hW
  generalize rGet l p 0 5 = g at *
  obtain ⟨W, p2, e2⟩ := g
  simp only at *
  have hwW : IntKind.i64.wrap (W : Int) = W := wI (by omega) (by omega)
  obtain ⟨N, rfl⟩ : ∃ N : Nat, size = N := ⟨size.toNat, by omega⟩
  simp [hwW]
  obtain ⟨hY, hsz, up, up2⟩ := H.yqUp h
  refine call_h (sget_c hY N W (by omega) (by omega)) (by simp) ?_
  rintro u w3 ⟨A, xs, hxs, hxl, hsep⟩
  replace H := up2 _ _ _ _ A hsep
  have hlen := sgTo_len l p2 e2 W N
  generalize sgTo l p2 e2 W N = st at *
  obtain ⟨sl, p3, e3⟩ := st
  simp only at *
  obtain ⟨hY, hsz, up, up2⟩ := H.yqUp h
  obtain ⟨c0, c1, c2, _, _⟩ := hY.sl
  simp [c2]
  by_cases he : e3 ≠ 0
  · refine ite_r (t := true) (by simp [he]) (fun _ => ?_) (fun h => by cases h)
    simp [c2, he]
    exact fin (H.drop 2).drew
  obtain rfl : e3 = 0 := by omega
  obtain rfl := hxs rfl
  refine ite_r (t := false) (by simp) (fun h => by cases h) (fun _ => ?_)
  simp
  have hrd := H.rd 2 rfl
  refine callp (width2_c hrd (by omega)) (by simp) ?_
  simp
  by_cases hw : widL xs = W
  · refine ite_r (t := false) (by simp [hw]) (fun h => by cases h) (fun _ => ?_)
    simp [hw]
    exact H.shutY h
  · refine ite_r (t := true) (by simp; omega) (fun _ => ?_) (fun h => by cases h)
    simp [hw]
    exact fin (H.drop 2)

/-- A plan, a row and an error made; the document's reader carried on. -/
def PlanYd (w : World) (G : Nat → Prop) (b : Nat) (v : Value) (l : List Nat) (r : Value) (s : (Int × List Int × List Int × Int) × Nat × Int) (w' : World) : Prop :=
  ∃ kv u, r = .tuple #[planV s.1.1 kv, u, .int .i64 s.1.2.2.2] ∧ YrAfter w G b v l s.2.1 s.2.2 w' ∧ ∃ Gs, Sep w.heap.size w' [.own 3 1 kv s.1.2.1.length (intsV s.1.2.1), .own 3 1 u s.1.2.2.1.length (intsV s.1.2.2.1)] Gs
theorem plan_badY {w w2 : World} {G : Nat → Prop} {b : Nat} {v : Value} {l : List Nat} {p p0 : Nat} {e e0 er : Int} (h : Yr w G b v l p0 e0) (H : Hp (bare w) w2 [.yq v l b p e, .old w (fun k => k = b)]) : PlanYd w G b v l (.tuple #[.agg #[.int .i64 0, .slice none 0 0], .slice none 0 0, .int .i64 er]) ((0, [], [], er), p, e) w2 :=
  ⟨_, _, rfl, H.nilS.nilS.shutY h⟩

end Go.Proofs.Ytajkofndbeohpaa.VG
