/-
  Model: planes got from bits: the document's walk.
-/
import Derived.Test.YtcljnpodfhgjkaaMm
namespace Go.Proofs.Ytcljnpodfhgjkaa.VG
open Go
set_option linter.unusedSimpArgs false
set_option linter.unusedVariables false
set_option maxRecDepth 20000

def rdC (v : Value) (p : Nat) (e : Int) : Array Value := #[v, .int .i64 p, .int .i64 e]
theorem blk_only {b : Nat} {c : Array Value} {w : World} (F' : Nat → Prop) (h : (It.blk b c).P w F') : F' = fun k => k = b := h.2
/-- The document's reader, in its own block beside all that is old. -/
theorem Hp.yn {G : Nat → Prop} {w w' : World} {b : Nat} {v : Value} {l : List Nat} {p0 p : Nat} {e0 e : Int} {R : List It} (hY : Yr w G b v l p0 e0) (h : Hp (bare w) w' (.blk b (rdC v p e) :: .old w (fun k => k = b) :: R)) (hp : p ≤ 8 * l.length) :
    Yr w' G b v l p e ∧ Mod (fun k => k = b) w w' ∧ (∃ Gs, Sep w.heap.size w' R Gs) ∧
    (∀ p' e' w2, YrAfter w' G b v l p' e' w2 → Hp (bare w) w2 (.blk b (rdC v p' e') :: .old w (fun k => k = b) :: R)) ∧
    ∀ p' e' w2 u n xs, YrAfter w' G b v l p' e' w2 → w2.ownsRow 0 3 1 u n xs → (∀ k, u.ownBlock = some k → w'.heap.size ≤ k) → Hp (bare w) w2 (.blk b (rdC v p' e') :: .old w (fun k => k = b) :: (R ++ [.own 3 1 u n xs])) := by
  obtain ⟨⟨⟨el, hh⟩, _⟩, m, hs⟩ := Hp.shutG blk_only h
  obtain ⟨F, ⟨_, rfl⟩, h2, h4⟩ := h.upR 0 rfl
  refine ⟨⟨heap_lt hh, hY.off, hY.fits, hp, hY.small, hY.rd.mod m (fun k hk e => hY.off (e ▸ hk)), el, hh⟩, m, hs, fun p' e' w2 ⟨q1, q2⟩ => ?_, fun p' e' w2 u n xs ⟨q1, q2⟩ ho hu => ?_⟩
  · obtain ⟨el', h5⟩ := q1.is
    have := h4 (.blk b (rdC v p' e')) w2 (fun k => k = b) [] q2 ⟨⟨el', h5⟩, rfl⟩ (fun k hk => hk) ⟨[], trivial⟩
    rwa [List.append_nil] at this
  · obtain ⟨el', h5⟩ := q1.is
    exact h4 (.blk b (rdC v p' e')) w2 (fun k => k = b) _ q2 ⟨⟨el', h5⟩, rfl⟩ (fun k hk => hk) ⟨[fun k => u.ownBlock = some k], ⟨ho, rfl⟩, hu, (fun _ hG => by cases hG), trivial⟩

theorem yerr26_c {w : World} {G : Nat → Prop} {b : Nat} {v : Value} {l : List Nat} {p : Nat} {e : Int} (h : Yr w G b v l p e) :
    Calls Try.prog 95 [.pointer (some ⟨b, 0, none⟩)].toArray w (Ret fun r w' => r = .int .i64 e ∧ w' = w) := by
  refine F_sound c95 (by simp [fc95]) ?_
  obtain ⟨el, hh⟩ := h.is
  have c2 := cell_blk hh 2
  simp at c2
  simp [fc95, s95, c2]
theorem yat26_c {w : World} {G : Nat → Prop} {b : Nat} {v : Value} {l : List Nat} {p : Nat} {e : Int} (h : Yr w G b v l p e) :
    Calls Try.prog 63 [.pointer (some ⟨b, 0, none⟩)].toArray w (Ret fun r w' => r = .int .i64 p ∧ w' = w) := by
  refine F_sound c63 (by simp [fc63]) ?_
  obtain ⟨el, hh⟩ := h.is
  have c1 := cell_blk hh 1
  simp at c1
  simp [fc63, s63, c1]
theorem form26_c {w : World} {G : Nat → Prop} {b : Nat} {v : Value} {l : List Nat} {p : Nat} {e : Int} (h : Yr w G b v l p e) :
    Calls Try.prog 79 [.pointer (some ⟨b, 0, none⟩)].toArray w (Ret fun r w' => r = .int .i64 (if e ≠ 0 then e else 2) ∧ w' = w) := by
  refine F_sound c79 (by simp [fc79]) ?_
  simp [fc79, s79]
  refine callp (yerr26_c h) (by simp) ?_
  by_cases he : e = 0
  · subst he
    simp
    refine ite_r (t := false) (by simp) (fun h => by cases h) (fun _ => ?_)
    simp
  · rw [if_neg he]
    simp
    refine ite_r (t := true) (by simp; exact he) (fun _ => ?_) (fun h => by cases h)
    refine callp (yerr26_c h) (by simp) ?_
    simp

/-- What a call of the document leaves that gets a plane. -/
def Get2R (w : World) (G : Nat → Prop) (b : Nat) (v : Value) (l : List Nat) (r : Value) (s : (List Int × Int) × Nat × Int) (w' : World) : Prop :=
  ∃ u, r = .tuple #[u, .int .i64 s.1.2] ∧ Yr w' G b v l s.2.1 s.2.2 ∧ Mod (fun k => k = b) w w' ∧ ∃ Gs, Sep w.heap.size w' [.own 3 1 u s.1.1.length (intsV s.1.1)] Gs
theorem Get2R.bad {w w' : World} {G : Nat → Prop} {b : Nat} {v : Value} {l : List Nat} {c e : Int} {p : Nat} (h : Yr w' G b v l p e) (m : Mod (fun k => k = b) w w') : Get2R w G b v l (.tuple #[.slice none 0 0, .int .i64 c]) (([], c), p, e) w' := by
  refine ⟨_, rfl, h, m, [fun k => (Value.slice none 0 0).ownBlock = some k], ⟨World.ownsRow_nil _ _ _ _, rfl⟩, ?_, (fun _ hG => by cases hG), trivial⟩
  intro k hk
  simp [Value.ownBlock] at hk
set_option maxHeartbeats 8000000 in
theorem mget2_c {G : Nat → Prop} {w : World} {b : Nat} {v : Value} {l : List Nat} (hY : Yr w G b v l 0 0) (hG : ∀ k, G k → k < w.heap.size) (wd h d : Int) :
    Calls Try.prog 61 [.pointer (some ⟨b, 0, none⟩), .int .i64 wd, .int .i64 h, .int .i64 d].toArray w (Ret fun r w' => Get2R w G b v l r (getM l wd h d) w') := by
  refine F_sound c61 (by simp [fc61]) ?_
  simp [fc61, s61]
  have H : Hp (bare w) w [.blk b (rdC v 0 0), .old w (fun k => k = b)] := by
    obtain ⟨el, hh⟩ := hY.is
    exact Hp.openG ⟨⟨el, hh⟩, rfl⟩
  refine call_h (mnew2_c d) (by simp) ?_
  rintro r w1 hN
  unfold getM
  cases hd : dep d
  · obtain ⟨q, rfl, M1⟩ := hN.code
    have hsz : sizesB wd h d = false := by simp [sizesB, hd]
    rw [hsz, hd]
    simp
    refine ifg_r (t := true) (by simp) (fun h => by cases h) (fun _ => ?_)
    simp
    refine ifg_r (t := true) (by simp) (fun h => by cases h) (fun _ => ?_)
    simp
    refine ite_r (t := true) (by simp) (fun _ => ?_) (fun h => by cases h)
    simp
    exact Get2R.bad (hY.mod M1 (fun _ _ h => h) (fun h => h)) (M1.mono fun _ _ h => h.elim)
  obtain ⟨t, rfl, HR⟩ := hN.ok hd
  have M1 := HR.mod
  replace H := H.join HR
  replace H : Hp (bare w) w1 [.blk b (rdC v 0 0), .old w (fun k => k = b), .blk t (cellsF (newF d) 1461)] := H
  simp
  refine ifg_r (t := false) (by simp) (fun _ => ?_) (fun h => (h rfl).elim)
  refine callp (side2_c wd) (by simp) ?_
  by_cases hwb : 1 ≤ wd ∧ wd ≤ 64
  rotate_left
  · have hw1 : (decide (1 ≤ wd) && decide (wd ≤ 64)) = false := by simp; omega
    have hsz : sizesB wd h d = false := by simp [sizesB, hw1]
    rw [hw1, hsz]
    simp
    refine ifg_r (t := true) (by simp) (fun h => by cases h) (fun _ => ?_)
    simp
    refine ite_r (t := true) (by simp) (fun _ => ?_) (fun h => by cases h)
    simp
    exact Get2R.bad (hY.mod M1 (fun _ _ h => h) (fun h => h)) (M1.mono fun _ _ h => h.elim)
  have hw1 : (decide (1 ≤ wd) && decide (wd ≤ 64)) = true := by simp; omega
  rw [hw1]
  simp
  refine ifg_r (t := false) (by simp) (fun _ => ?_) (fun h => (h rfl).elim)
  refine callp (side2_c h) (by simp) ?_
  by_cases hhb : 1 ≤ h ∧ h ≤ 64
  rotate_left
  · have hh1 : (decide (1 ≤ h) && decide (h ≤ 64)) = false := by simp; omega
    have hsz : sizesB wd h d = false := by simp [sizesB, hh1]
    rw [hh1, hsz]
    simp
    refine ite_r (t := true) (by simp) (fun _ => ?_) (fun h => by cases h)
    simp
    exact Get2R.bad (hY.mod M1 (fun _ _ h => h) (fun h => h)) (M1.mono fun _ _ h => h.elim)
  have hh1 : (decide (1 ≤ h) && decide (h ≤ 64)) = true := by simp; omega
  have hsz : sizesB wd h d = true := sizesB_iff.2 ⟨hd, hwb, hhb⟩
  rw [hh1, hsz]
  obtain ⟨W, rfl⟩ : ∃ W : Nat, wd = W := ⟨wd.toNat, by omega⟩
  obtain ⟨H', rfl⟩ : ∃ H' : Nat, h = H' := ⟨h.toNat, by omega⟩
  have hm := mul64 (w := W) (h := H') (by omega) (by omega)
  have eN : (W : Int) * (H' : Int) = ((W * H' : Nat) : Int) := by rw [Int.natCast_mul]
  simp only [Int.toNat_natCast]
  rw [eN] at hm
  simp
  refine ite_r (t := false) (by simp) (fun h => by cases h) (fun _ => ?_)
  generalize W * H' = N at *
  have wN : IntKind.i64.wrap (N : Int) = (N : Int) := wI (by omega) (by omega)
  replace H := H.nilS (e := 3) (size := 1)
  replace H : Hp (bare w) w1 [.blk b (rdC v 0 0), .old w (fun k => k = b), .blk t (cellsF (newF d) 1461), .own 3 1 (.slice none 0 0) 0 []] := H
  have hstay : ∀ i, i ≤ N → (dRun l W d i).code ≠ 0 → dRun l W d N = dRun l W d i := fun i hi hc => by
    have := dRun_stay l W d hc (N - i)
    rwa [show i + (N - i) = N by omega] at this
  simp
  refine for_r N (fun i env' w' => env' 0 = .pointer (some ⟨b, 0, none⟩) ∧ env' 1 = .int .i64 W ∧ env' 2 = .int .i64 H' ∧ env' 3 = .int .i64 d ∧ env' 10 = .pointer (some ⟨t, 0, none⟩) ∧ env' 13 = .int .i64 i ∧ (dRun l W d i).code = 0 ∧ (dRun l W d i).p ≤ 8 * l.length ∧
    Hp (bare w) w' [.blk b (rdC v (dRun l W d i).p 0), .old w (fun k => k = b), .blk t (cellsF (dRun l W d i).f 1461), .own 3 1 (env' 12) (dRun l W d i).out.length (intsV (dRun l W d i).out)]) ?_ ?_ ?_
  · simp [dRun]
    exact H
  · rintro i env w3 hi ⟨e0, e1, e2, e3, e10, e13, hcode, hple, H⟩
    have wi : IntKind.i64.wrap ((i : Int) + 1) = ((i + 1 : Nat) : Int) := by rw [wI (by omega) (by omega)]; omega
    obtain ⟨he0, hol, hf, hf0⟩ := dRun_ok l W hd i hcode
    have hst : dRun l W d (i + 1) = dStep l W d i (dRun l W d i) := rfl
    unfold dStep at hst
    rw [if_neg (by omega)] at hst
    have hst1 := hstay (i + 1) (by omega)
    generalize dRun l W d i = s at *
    generalize hrv : env 12 = rv at *
    simp [e1, e2, e13, eN, wN]
    refine ite_r (t := true) (by simp; omega) (fun _ => ?_) (fun h => by cases h)
    simp [wp_blk]
    have hrd : Rd (fun k => (bare w).heap.size ≤ k) w3 rv s.out.length (intsV s.out) := H.rd 3 rfl
    refine callm (seen_c (H.md 2 rfl).1 hf hrd (W := W) (i := i) (by omega) (by omega)) (by simp [e1, e10, e13, hrv]) ?_
    intro w4 M4
    replace H := H.same M4
    have hgb := gue_bd hf (farI (lookC s.out W i (s.f 0))) (guessAt s.out W (s.f 0) 7 (i % W) (i / W)) (decide (lookC s.out W i (s.f 0) < 0))
    replace hgb : 0 ≤ lookG s.f s.out W i ∧ lookG s.f s.out W i ≤ 65535 := hgb
    have hk := kOf_le hf (farI (lookC s.out W i d))
    unfold lookV
    rw [hf0]
    generalize lookG s.f s.out W i = g at *
    generalize lookC s.out W i d = c at *
    simp
    refine callm (k2_c (H.md 2 rfl).1 hf (farI c)) (by simp (disch := omega) [wI, wU, tmod_nn, tdiv_nn, env0_0, env0_1, env0_2, env0_3, env0_4, env0_5, -env0_apply, e10]) ?_
    intro w' M'
    replace H := H.same M'
    have hgo := getS_one l s.p (kOf s.f (farI c)) (by omega)
    have hform := oneS_form l s.p (kOf s.f (farI c))
    obtain ⟨hYr, mY, _, upY, upRow⟩ := H.yn hY hple
    refine call_h (xrget_c hYr (fun k hk => Nat.lt_of_lt_of_le (hG k hk) mY.size) (kOf s.f (farI c)) 1) (by simp [e0]) ?_
    rintro r w6 ⟨hRow, hAft⟩
    rw [hgo] at hRow hAft
    generalize oneS l s.p (kOf s.f (farI c)) = o at *
    by_cases ho : o.1.2 ≠ 0
    · rw [if_pos ho] at hRow hAft hst
      obtain ⟨u, rfl, hown, hnew⟩ := hRow
      have hle1 := hAft.1.le
      replace H := (upY _ _ _ hAft).drew
      replace hform := hform ho
      have ho' : ¬ o.1.2 = 0 := ho
      simp [ho']
      refine ifg_r (t := true) (by simp [ho']) (fun h => by cases h) (fun _ => ?_)
      simp [ho']
      refine ite_r (t := true) (by simp [ho']) (fun _ => ?_) (fun h => by cases h)
      obtain ⟨hY2, mY2, _⟩ := H.yn hY hle1
      refine callp (form26_c hY2) (by simp [e0]) ?_
      rw [hst] at hst1
      have hst1 := hst1 ho
      rw [hst1]
      simp [ho']
      rw [if_pos ho'] at *
      have hform' : (if o.2.2 = 0 then 2 else o.2.2) = o.1.2 := by rw [← hform]; by_cases hz : o.2.2 = 0 <;> simp [hz]
      rw [hform']
      exact Get2R.bad hY2 mY2
    rw [if_neg ho] at hRow hAft hst
    obtain ⟨u, rfl, hown, hnew⟩ := hRow
    have hle1 := hAft.1.le
    replace H := (upRow _ _ _ _ _ _ hAft hown hnew).drew
    replace H : Hp (bare w) w6.drew [.blk b (rdC v o.2.1 0), .old w (fun k => k = b), .blk t (cellsF s.f 1461), .own 3 1 rv s.out.length (intsV s.out), .own 3 1 u 1 (intsV [o.1.1])] := H
    generalize o.1.1 = x at *
    obtain ⟨uS, uL⟩ := (H.rd 4 rfl).sl
    have hg := (H.rd 4 rfl).gi (l := [x]) 0 (by simp)
    have hup := (H.rd 4 rfl).some (by simp)
    rw [add_zero] at hg
    simp [gi] at hg
    simp [uS, uL, hg, hup]
    refine ifg_r (t := false) (by simp) (fun _ => ?_) (fun h => (h rfl).elim)
    refine call_r _ (fold2_c' x d) (by simp [e3]) ?_
    rintro r _ ⟨rfl, rfl⟩
    refine ⟨by simp [promOk, SameCells], ?_⟩
    simp
    by_cases hx : x ≠ foldI x d
    · rw [if_pos hx] at hst
      have hx' : ¬ foldI x d = x := fun h => hx h.symm
      refine ite_r (t := true) (by simp; exact hx') (fun _ => ?_) (fun h => by cases h)
      obtain ⟨hY2, mY2, _⟩ := H.yn hY hle1
      refine callp (form26_c hY2) (by simp [e0]) ?_
      rw [hst] at hst1
      have hst1 := hst1 (by simp)
      rw [hst1]
      simp
      exact Get2R.bad hY2 mY2
    rw [if_neg hx] at hst
    have hx : x = foldI x d := by omega
    have hxb := fold_bd x hd
    rw [← hx] at hxb
    have hx' : foldI x d = x := hx.symm
    refine ite_r (t := false) (by simp; exact hx') (fun h => by cases h) (fun _ => ?_)
    simp [uS, uL, hg, hup]
    obtain ⟨hM, _, _, up⟩ := H.md 2 rfl
    refine call_h (learn2_c hM hf (farI c) x (by omega)) (by simp [e10]) ?_
    rintro r w7 HA
    replace H := up _ _ HA
    replace H : Hp (bare w) w7 [.blk b (rdC v o.2.1 0), .old w (fun k => k = b), .blk t (cellsF (lrn s.f (farI c) x) 1461), .own 3 1 rv s.out.length (intsV s.out), .own 3 1 u 1 (intsV [x])] := H
    have hg := (H.rd 4 rfl).gi (l := [x]) 0 (by simp)
    rw [add_zero] at hg
    simp [gi] at hg
    rw [hst]
    have wx : IntKind.i64.wrap (g - x) = g + -x := by rw [wI (by omega) (by omega)]; omega
    have wx2 : IntKind.i64.wrap (g + x) = g + x := wI (by omega) (by omega)
    simp
    by_cases hc : c < 0
    · refine ite_r (t := true) (by simp [hc]) (fun _ => ?_) (fun h => by cases h)
      simp [uS, uL, hg, hup, wx, hc]
      refine callp (wrap2_c (g + -x) d) (by simp [e3, uS, uL, hg, hup, wx]) ?_
      simp
      refine app1_h slTI 3 H rfl (u := .int .i64 (wrapI (g + -x) d)) (by simp) (by omega) (by unfold maxLen; omega) (by simp) (by simp [hrv]) (by simp) (by simp) ?_
      intro vb v' w8 w9 H
      refine ⟨.inl rfl, ?_⟩
      replace H := H.drop 4
      simp [-Int.natCast_add, wi, e0, e1, e2, e3, e10, e13]
      simp only [List.set_cons_zero, List.set_cons_succ] at H
      rw [intsV_snoc] at H
      exact ⟨by omega, hle1, H⟩
    · refine ite_r (t := false) (by simp [hc]) (fun h => by cases h) (fun _ => ?_)
      simp [uS, uL, hg, hup, wx2, hc]
      refine callp (wrap2_c (g + x) d) (by simp [e3, uS, uL, hg, hup, wx2]) ?_
      simp
      refine app1_h slTI 3 H rfl (u := .int .i64 (wrapI (g + x) d)) (by simp) (by omega) (by unfold maxLen; omega) (by simp) (by simp [hrv]) (by simp) (by simp) ?_
      intro vb v' w8 w9 H
      refine ⟨.inl rfl, ?_⟩
      replace H := H.drop 4
      simp [-Int.natCast_add, wi, e0, e1, e2, e3, e10, e13]
      simp only [List.set_cons_zero, List.set_cons_succ] at H
      rw [intsV_snoc] at H
      exact ⟨by omega, hle1, H⟩
  · rintro env w3 ⟨e0, e1, e2, e3, e10, e13, hcode, hple, H⟩
    simp [e1, e2, e13, eN, wN]
    refine ite_r (t := false) (by simp) (fun h => by cases h) (fun _ => ?_)
    obtain ⟨he0, hol, hf, hf0⟩ := dRun_ok l W hd N hcode
    rw [hcode, he0]
    simp
    obtain ⟨q1, q2, q3, _⟩ := (H.drop 2).yn hY hple
    exact ⟨_, rfl, q1, q2, q3⟩

end Go.Proofs.Ytcljnpodfhgjkaa.VG
