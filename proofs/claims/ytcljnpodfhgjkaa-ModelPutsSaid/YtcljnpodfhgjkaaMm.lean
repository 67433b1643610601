/-
  Model: planes got from bits: what is got; the program's walk.
-/
import Derived.Test.YtcljnpodfhgjkaaMl
namespace Go.Proofs.Ytcljnpodfhgjkaa.VG
open Go
set_option linter.unusedSimpArgs false
set_option linter.unusedVariables false
set_option maxRecDepth 20000

/-- How far a plane is got. -/
structure DS where
  out : List Int
  f : Nat → Int
  p : Nat
  code : Int
  e : Int
def dStep (b : List Nat) (W : Nat) (d : Int) (i : Nat) (s : DS) : DS :=
  if s.code ≠ 0 then s
  else if (oneS b s.p (kOf s.f (farI (lookC s.out W i d)))).1.2 ≠ 0 then
    { s with p := (oneS b s.p (kOf s.f (farI (lookC s.out W i d)))).2.1, code := (oneS b s.p (kOf s.f (farI (lookC s.out W i d)))).1.2, e := (oneS b s.p (kOf s.f (farI (lookC s.out W i d)))).2.2 }
  else if (oneS b s.p (kOf s.f (farI (lookC s.out W i d)))).1.1 ≠ foldI (oneS b s.p (kOf s.f (farI (lookC s.out W i d)))).1.1 d then
    { s with p := (oneS b s.p (kOf s.f (farI (lookC s.out W i d)))).2.1, code := 2, e := 0 }
  else
    { out := s.out ++ [wrapI (lookG s.f s.out W i + (if lookC s.out W i d < 0 then -(oneS b s.p (kOf s.f (farI (lookC s.out W i d)))).1.1 else (oneS b s.p (kOf s.f (farI (lookC s.out W i d)))).1.1)) d]
      f := lrn s.f (farI (lookC s.out W i d)) (oneS b s.p (kOf s.f (farI (lookC s.out W i d)))).1.1
      p := (oneS b s.p (kOf s.f (farI (lookC s.out W i d)))).2.1
      code := 0
      e := 0 }
def dRun (b : List Nat) (W : Nat) (d : Int) : Nat → DS
  | 0 => ⟨[], newF d, 0, 0, 0⟩
  | i + 1 => dStep b W d i (dRun b W d i)
/-- As long as all goes well. -/
def DOk (s : DS) (d : Int) (i : Nat) : Prop := s.code = 0 → s.e = 0 ∧ s.out.length = i ∧ Wf s.f ∧ s.f 0 = d
theorem dRun_ok (b : List Nat) (W : Nat) {d : Int} (hd : dep d = true) : ∀ i, DOk (dRun b W d i) d i
  | 0 => fun _ => ⟨rfl, rfl, newF_wf hd, rfl⟩
  | i + 1 => by
    have h := dRun_ok b W hd i
    unfold DOk at *
    rw [dRun]
    generalize dRun b W d i = s at *
    unfold dStep
    by_cases h0 : s.code ≠ 0
    · rw [if_pos h0]; exact fun h => absurd h h0
    rw [if_neg h0]
    obtain ⟨h1, h2, h3, h4⟩ := h (by omega)
    by_cases h5 : (oneS b s.p (kOf s.f (farI (lookC s.out W i d)))).1.2 ≠ 0
    · rw [if_pos h5]; exact fun h => absurd h h5
    rw [if_neg h5]
    by_cases h6 : (oneS b s.p (kOf s.f (farI (lookC s.out W i d)))).1.1 ≠ foldI (oneS b s.p (kOf s.f (farI (lookC s.out W i d)))).1.1 d
    · rw [if_pos h6]; exact fun h => by cases h
    rw [if_neg h6]
    exact fun _ => ⟨rfl, by simp [h2], lrn_wf h3 _ _, (lrn_zero _ _ _).trans h4⟩
theorem dRun_stay (b : List Nat) (W : Nat) (d : Int) {i : Nat} (h : (dRun b W d i).code ≠ 0) : ∀ n, dRun b W d (i + n) = dRun b W d i
  | 0 => rfl
  | n + 1 => by
    have hn := dRun_stay b W d h n
    rw [← Nat.add_assoc, dRun, hn, dStep, if_pos h]
def sizesB (wd h d : Int) : Bool := dep d && (decide (1 ≤ wd) && decide (wd ≤ 64)) && (decide (1 ≤ h) && decide (h ≤ 64))
theorem sizesB_iff {wd h d : Int} : sizesB wd h d = true ↔ dep d = true ∧ (1 ≤ wd ∧ wd ≤ 64) ∧ 1 ≤ h ∧ h ≤ 64 := by simp [sizesB, and_assoc]
def getM (b : List Nat) (wd h d : Int) : (List Int × Int) × Nat × Int :=
  if sizesB wd h d = true then
    (if (dRun b wd.toNat d (wd.toNat * h.toNat)).code = 0 then ((dRun b wd.toNat d (wd.toNat * h.toNat)).out, 0) else ([], (dRun b wd.toNat d (wd.toNat * h.toNat)).code),
      (dRun b wd.toNat d (wd.toNat * h.toNat)).p, (dRun b wd.toNat d (wd.toNat * h.toNat)).e)
  else (([], 1), 0, 0)
theorem getS_one (b : List Nat) (p K : Nat) (hK : K ≤ 25) : getS b p 0 K 1 = if (oneS b p K).1.2 ≠ 0 then (([], (oneS b p K).1.2), (oneS b p K).2) else (([(oneS b p K).1.1], 0), (oneS b p K).2.1, 0) := by
  have hp : paramB (K : Int) = true := paramB_iff.2 (by omega)
  rw [getS, hp, if_neg (by simp), if_neg (by simp)]
  rw [Int.toNat_natCast, show (1 : Int).toNat = 0 + 1 from rfl, getF]
  split <;> rfl
theorem oneS_form (b : List Nat) (p K : Nat) (h : (oneS b p K).1.2 ≠ 0) : (if (oneS b p K).2.2 ≠ 0 then (oneS b p K).2.2 else 2) = (oneS b p K).1.2 := by
  revert h
  unfold oneS
  split
  · rename_i h1; intro _; first | rfl | exact if_pos h1
  split
  · intro h; exact if_pos h
  split
  · rename_i h1; intro _; first | rfl | exact if_pos h1
  split
  · rename_i h1 h2; intro _; first | rfl | exact if_neg h1
  · intro h; exact absurd rfl h

/-- A reader in blocks that are told. -/
def It.rf (F : Nat → Prop) (b : Nat) (l : List Nat) (p : Nat) (e : Int) : It := ⟨fun w F' => Rr w F b l p e ∧ F' = F, fun h m d => ⟨h.1.mod m (by rw [← h.2]; exact d), h.2⟩, fun h => by rw [h.2]; exact h.1.lt⟩
theorem Hp.rf {W w : World} {l : List It} (h : Hp W w l) (j : Nat) {F : Nat → Prop} {b : Nat} {bs : List Nat} {p : Nat} {e : Int} (hj : l[j]? = some (.rf F b bs p e)) :
    Rr w F b bs p e ∧ (∀ p' e' w', RrAfter w F b bs p' e' w' → Hp W w' (l.set j (.rf F b bs p' e'))) ∧
    ∀ p' e' w' u n xs, RrAfter w F b bs p' e' w' → w'.ownsRow 0 3 1 u n xs → (∀ k, u.ownBlock = some k → w.heap.size ≤ k) → Hp W w' (l.set j (.rf F b bs p' e') ++ [.own 3 1 u n xs]) := by
  obtain ⟨F0, ⟨h1, rfl⟩, h2, h4⟩ := h.upR j hj
  refine ⟨h1, fun p' e' w' ⟨q1, q2⟩ => ?_, fun p' e' w' u n xs ⟨q1, q2⟩ ho hu => ?_⟩
  · have := h4 (.rf F0 b bs p' e') w' F0 [] (q2.mono fun k _ hk => hk ▸ h1.me) ⟨q1, rfl⟩ (fun k hk => hk) ⟨[], trivial⟩
    rwa [List.append_nil] at this
  · exact h4 (.rf F0 b bs p' e') w' F0 _ (q2.mono fun k _ hk => hk ▸ h1.me) ⟨q1, rfl⟩ (fun k hk => hk) ⟨[fun k => u.ownBlock = some k], ⟨ho, rfl⟩, hu, (fun _ hG => by cases hG), trivial⟩

theorem rf_only {F : Nat → Prop} {b : Nat} {l : List Nat} {p : Nat} {e : Int} {w : World} (F' : Nat → Prop) (h : (It.rf F b l p e).P w F') : F' = F := h.2
/-- What a call that gets a plane leaves. -/
def GetR (w : World) (F : Nat → Prop) (b : Nat) (l : List Nat) (r : Value) (s : (List Int × Int) × Nat × Int) (w' : World) : Prop :=
  ∃ u, r = .tuple #[u, .int .i64 s.1.2] ∧ Rr w' F b l s.2.1 s.2.2 ∧ Mod F w w' ∧ ∃ Gs, Sep w.heap.size w' [.own 3 1 u s.1.1.length (intsV s.1.1)] Gs
theorem GetR.bad {w w' : World} {F : Nat → Prop} {b : Nat} {l : List Nat} {c e : Int} {p : Nat} (h : Rr w' F b l p e) (m : Mod F w w') : GetR w F b l (.tuple #[.slice none 0 0, .int .i64 c]) (([], c), p, e) w' := by
  obtain ⟨Gs, hs⟩ := ((Hp.nil w).nilS (e := 3) (size := 1)).sep
  refine ⟨_, rfl, h, m, [fun k => (Value.slice none 0 0).ownBlock = some k], ⟨World.ownsRow_nil _ _ _ _, rfl⟩, ?_, (fun _ hG => by cases hG), trivial⟩
  intro k hk
  simp [Value.ownBlock] at hk
set_option maxHeartbeats 8000000 in
theorem mget_c {F : Nat → Prop} {w : World} {b : Nat} {l : List Nat} (hR : Rr w F b l 0 0) (wd h d : Int) :
    Calls Try.prog 27 [.pointer (some ⟨b, 0, none⟩), .int .i64 wd, .int .i64 h, .int .i64 d].toArray w (Ret fun r w' => GetR w F b l r (getM l wd h d) w') := by
  refine F_sound c27 (by simp [fc27]) ?_
  simp [fc27, s27]
  have H := Hp.openG (i := .rf F b l 0 0) (F := F) ⟨hR, rfl⟩
  refine call_h (mnew_c d) (by simp) ?_
  rintro r w1 hN
  unfold getM
  cases hsz : sizesB wd h d
  · obtain ⟨q, rfl, M1⟩ := hN.code
    have hno : dep d = true → ¬ ((1 ≤ wd ∧ wd ≤ 64) ∧ 1 ≤ h ∧ h ≤ 64) := fun hd hb => by rw [sizesB_iff.2 ⟨hd, hb⟩] at hsz; cases hsz
    cases hd : dep d
    · simp
      refine ite_r (t := true) (by simp) (fun _ => ?_) (fun h => by cases h)
      simp
      exact GetR.bad (hR.mod M1 (fun _ _ h => h)) (M1.mono fun _ _ h => h.elim)
    · have hno := hno hd
      simp
      refine ite_r (t := true) (by simp; omega) (fun _ => ?_) (fun h => by cases h)
      simp
      exact GetR.bad (hR.mod M1 (fun _ _ h => h)) (M1.mono fun _ _ h => h.elim)
  obtain ⟨hd, hwb, hhb⟩ := sizesB_iff.1 hsz
  obtain ⟨W, rfl⟩ : ∃ W : Nat, wd = W := ⟨wd.toNat, by omega⟩
  obtain ⟨H', rfl⟩ : ∃ H' : Nat, h = H' := ⟨h.toNat, by omega⟩
  obtain ⟨t, rfl, HR⟩ := hN.ok hd
  replace H := H.join HR
  replace H : Hp (bare w) w1 [.rf F b l 0 0, .old w F, .blk t (cellsF (newF d) 1461)] := H
  have hm := mul64 (w := W) (h := H') (by omega) (by omega)
  have eN : (W : Int) * (H' : Int) = ((W * H' : Nat) : Int) := by rw [Int.natCast_mul]
  simp only [Int.toNat_natCast]
  rw [eN] at hm
  simp
  refine ite_r (t := false) (by simp; omega) (fun h => by cases h) (fun _ => ?_)
  refine callp (err_c (H.rf 0 rfl).1) (by simp) ?_
  simp
  refine ite_r (t := false) (by simp) (fun h => by cases h) (fun _ => ?_)
  generalize W * H' = N at *
  have wN : IntKind.i64.wrap (N : Int) = (N : Int) := wI (by omega) (by omega)
  simp [eN, wN]
  refine mkN_h slTI (kl := .i64) (kc := .i64) (n := N) (xs := intsV (List.replicate N 0)) H (by simp [eN, wN]) (by simp [eN, wN]) (by omega) (by unfold maxLen; omega) (fun z hz => by rw [zero64 hz, intsV_zeros]) ?_
  intro rv w2 H M2
  refine ⟨.inl rfl, ?_⟩
  replace H : Hp (bare w) w2 [.rf F b l 0 0, .old w F, .blk t (cellsF (newF d) 1461), .own 3 1 rv N (intsV (List.replicate N 0))] := H
  obtain ⟨rS, rL⟩ := (H.rd 3 rfl).sl
  have hstay : ∀ i, i ≤ N → (dRun l W d i).code ≠ 0 → dRun l W d N = dRun l W d i := fun i hi hc => by
    have := dRun_stay l W d hc (N - i)
    rwa [show i + (N - i) = N by omega] at this
  simp [rS, rL]
  refine for_r N (fun i env' w' => env' 0 = .pointer (some ⟨b, 0, none⟩) ∧ env' 1 = .int .i64 W ∧ env' 3 = .int .i64 d ∧ env' 10 = .pointer (some ⟨t, 0, none⟩) ∧ env' 13 = rv ∧ env' 54 = .int .i64 N ∧ env' 55 = .int .i64 i ∧ (dRun l W d i).code = 0 ∧
    Hp (bare w) w' [.rf F b l (dRun l W d i).p 0, .old w F, .blk t (cellsF (dRun l W d i).f 1461), .own 3 1 rv N (intsV ((dRun l W d i).out ++ List.replicate (N - i) 0))]) ?_ ?_ ?_
  · simp [rL, dRun]
    exact H
  · rintro i env w3 hi ⟨e0, e1, e3, e10, e13, e54, e55, hcode, H⟩
    have wi : IntKind.i64.wrap ((i : Int) + 1) = ((i + 1 : Nat) : Int) := by rw [wI (by omega) (by omega)]; omega
    have hiW : i / W * W + i % W = i := by rw [Nat.mul_comm]; exact Nat.div_add_mod i W
    obtain ⟨he0, hol, hf, hf0⟩ := dRun_ok l W hd i hcode
    have hst : dRun l W d (i + 1) = dStep l W d i (dRun l W d i) := rfl
    unfold dStep at hst
    rw [if_neg (by omega)] at hst
    have hst1 := hstay (i + 1) (by omega)
    generalize dRun l W d i = s at *
    have hlk : lookV s.f (s.out ++ List.replicate (N - i) 0) W i = lookV s.f s.out W i := by
      unfold lookV lookG guessAt lookC
      rw [near_app s.out (List.replicate (N - i) 0) W (i % W) (i / W) (by omega)]
    simp [e54, e55]
    refine ite_r (t := true) (by simp; omega) (fun _ => ?_) (fun h => by cases h)
    simp [wp_blk]
    have hfl : (s.out ++ List.replicate (N - i) 0).length = N := by simp; omega
    have hrd : Rd (fun k => (bare w).heap.size ≤ k) w3 rv (s.out ++ List.replicate (N - i) 0).length (intsV (s.out ++ List.replicate (N - i) 0)) := by rw [hfl]; exact H.rd 3 rfl
    refine callm (look_c26 (H.md 2 rfl).1 hf hrd (W := W) (i := i) (by omega) (by omega)) (by simp [e1, e10, e13, e55]) ?_
    intro w4 M4
    replace H := H.same M4
    rw [hlk]
    have hgb := gue_bd hf (farI (lookC s.out W i (s.f 0))) (guessAt s.out W (s.f 0) 7 (i % W) (i / W)) (decide (lookC s.out W i (s.f 0) < 0))
    replace hgb : 0 ≤ lookG s.f s.out W i ∧ lookG s.f s.out W i ≤ 65535 := hgb
    have hk := kOf_le hf (farI (lookC s.out W i d))
    unfold lookV
    rw [hf0]
    generalize lookG s.f s.out W i = g at *
    generalize lookC s.out W i d = c at *
    simp
    refine callm (k_c (H.md 2 rfl).1 hf (farI c)) (by simp (disch := omega) [wI, wU, tmod_nn, tdiv_nn, env0_0, env0_1, env0_2, env0_3, env0_4, env0_5, -env0_apply, e10]) ?_
    intro w' M'
    replace H := H.same M'
    have hgo := getS_one l s.p (kOf s.f (farI c)) (by omega)
    obtain ⟨hRr, upR, upRow⟩ := H.rf 0 rfl
    refine call_h (rget_c hRr (kOf s.f (farI c)) 1) (by simp [e0]) ?_
    rintro r w6 ⟨hRow, hAft⟩
    rw [hgo] at hRow hAft
    generalize oneS l s.p (kOf s.f (farI c)) = o at *
    by_cases ho : o.1.2 ≠ 0
    · rw [if_pos ho] at hRow hAft hst
      obtain ⟨u, rfl, hown, hnew⟩ := hRow
      replace H := upR _ _ _ hAft
      simp
      refine ite_r (t := true) (by simp; exact ho) (fun _ => ?_) (fun h => by cases h)
      rw [hst] at hst1
      have hst1 := hst1 ho
      rw [hst1]
      simp
      rw [if_neg ho]
      obtain ⟨⟨q1, _⟩, q2, q3⟩ := Hp.shutG rf_only H
      exact GetR.bad q1 q2
    rw [if_neg ho] at hRow hAft hst
    obtain ⟨u, rfl, hown, hnew⟩ := hRow
    replace H := upRow _ _ _ _ _ _ hAft hown hnew
    replace H : Hp (bare w) w6 [.rf F b l o.2.1 0, .old w F, .blk t (cellsF s.f 1461), .own 3 1 rv N (intsV (s.out ++ List.replicate (N - i) 0)), .own 3 1 u 1 (intsV [o.1.1])] := H
    generalize o.1.1 = x at *
    obtain ⟨uS, uL⟩ := (H.rd 4 rfl).sl
    have hg := (H.rd 4 rfl).gi (l := [x]) 0 (by simp)
    have hup := (H.rd 4 rfl).some (by simp)
    rw [add_zero] at hg
    simp [gi] at hg
    simp
    refine ite_r (t := false) (by simp) (fun h => by cases h) (fun _ => ?_)
    simp [uS, uL, hg, hup]
    refine callp (fold_c' x d) (by simp [e3]) ?_
    simp
    by_cases hx : x ≠ foldI x d
    · rw [if_pos hx] at hst
      refine ite_r (t := true) (by simp; exact hx) (fun _ => ?_) (fun h => by cases h)
      rw [hst] at hst1
      have hst1 := hst1 (by simp)
      rw [hst1]
      simp
      obtain ⟨⟨q1, _⟩, q2, q3⟩ := Hp.shutG rf_only H
      exact GetR.bad q1 q2
    rw [if_neg hx] at hst
    have hx : x = foldI x d := by omega
    have hxb := fold_bd x hd
    rw [← hx] at hxb
    refine ite_r (t := false) (by simp; exact hx) (fun h => by cases h) (fun _ => ?_)
    obtain ⟨hM, _, _, up⟩ := (H.drop 4).md 2 rfl
    simp
    refine call_h (learn_c hM hf (farI c) x) (by simp [e10]) ?_
    rintro r w7 HA
    replace H := up _ _ HA
    replace H : Hp (bare w) w7 [.rf F b l o.2.1 0, .old w F, .blk t (cellsF (lrn s.f (farI c) x) 1461), .own 3 1 rv N (intsV (s.out ++ List.replicate (N - i) 0))] := H
    rw [hst]
    have wx : IntKind.i64.wrap (-x) = -x := wI (by omega) (by omega)
    generalize hy : (if c < 0 then -x else x) = y at *
    have hyb : -65536 ≤ y ∧ y ≤ 65536 := by rw [← hy]; split <;> omega
    have wy : IntKind.i64.wrap y = y := wI (by omega) (by omega)
    simp
    refine ite_cut (fun env' w' => env' 0 = .pointer (some ⟨b, 0, none⟩) ∧ env' 1 = .int .i64 W ∧ env' 3 = .int .i64 d ∧ env' 10 = .pointer (some ⟨t, 0, none⟩) ∧ env' 13 = rv ∧ env' 54 = .int .i64 N ∧ env' 55 = .int .i64 i ∧ env' 14 = .int .i64 i ∧ env' 17 = .int .i64 g ∧ env' 20 = .int .i64 y ∧ w' = w7) (t := decide (c < 0)) (by simp) ?_ ?_ ?_
    · intro hc
      have hc : c < 0 := by simpa using hc
      rw [if_pos hc] at hy
      simp [wx, wy, e0, e1, e3, e10, e13, e54, e55, hy]
    · intro hc
      have hc : ¬ c < 0 := by simpa using hc
      rw [if_neg hc] at hy
      simp [e0, e1, e3, e10, e13, e54, e55, hy]
    rintro env _ ⟨e0, e1, e3, e10, e13, e54, e55, e14, e17, e20, rfl⟩
    have wg : IntKind.i64.wrap (g + y) = g + y := wI (by omega) (by omega)
    simp [e17, e20, wg]
    refine callp (wrap_c (g + y) d) (by simp [e3, e17, e20, wg]) ?_
    have hpr := (H.rd 3 rfl).ptr (by simp [intsV]; omega)
    simp [e13, e14, rS, rL, hi, hpr.1]
    refine set_h 3 H rfl (i := i) (u := .int .i64 (wrapI (g + y) d)) hi (by simp [e13, e14, rS, rL, hi, hpr.1]) (by simp) (by simp) ?_
    intro w8 H
    refine ⟨.inl rfl, ?_⟩
    have hsf := set_fill (p := s.out) (n := N) (wrapI (g + y) d) hol hi
    simp only [List.set_cons_zero, List.set_cons_succ] at H
    rw [hsf] at H
    simp [-Int.natCast_add, wi, e0, e1, e3, e10, e13, e54, e55]
    rw [List.append_assoc] at H
    exact ⟨by omega, H⟩
  · rintro env w3 ⟨e0, e1, e3, e10, e13, e54, e55, hcode, H⟩
    simp [e54, e55]
    refine ite_r (t := false) (by simp) (fun h => by cases h) (fun _ => ?_)
    obtain ⟨he0, hol, hf, hf0⟩ := dRun_ok l W hd N hcode
    rw [hcode, he0]
    simp [e13]
    obtain ⟨⟨q1, _⟩, q2, q3⟩ := Hp.shutG rf_only (H.drop 2)
    refine ⟨_, rfl, q1, q2, ?_⟩
    rw [Nat.sub_self, List.replicate_zero, List.append_nil] at q3
    simpa [hol] using q3

end Go.Proofs.Ytcljnpodfhgjkaa.VG
