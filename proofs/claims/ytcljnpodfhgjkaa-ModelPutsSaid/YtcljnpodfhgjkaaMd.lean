/-
  Model: a model; what is told of a context.
-/
import Derived.Test.YtcljnpodfhgjkaaMc
namespace Go.Proofs.Ytcljnpodfhgjkaa.VG
open Go
set_option linter.unusedSimpArgs false
set_option linter.unusedVariables false
set_option maxRecDepth 20000

/-- A model's block. -/
def Md (w : World) (t : Nat) (f : Nat → Int) : Prop := (It.blk t (cellsF f 1461)).P w (fun k => k = t)
def ctxO (c : Int) : Nat := 1 + c.toNat * 4
def isC (c : Int) : Bool := decide (0 ≤ c) && decide (c < 365)
theorem isC_iff {c : Int} : isC c = true ↔ 0 ≤ c ∧ c < 365 := by simp [isC]
/-- The numbers of a context are within their bounds. -/
def WfS (n a b c : Int) : Prop := (1 ≤ n ∧ n ≤ 64) ∧ (0 ≤ a ∧ a ≤ 32768 * (n + 32)) ∧ (-n < b ∧ b ≤ 0) ∧ -128 ≤ c ∧ c ≤ 127
def Wf (f : Nat → Int) : Prop := dep (f 0) = true ∧ ∀ i : Nat, i < 365 → WfS (f (1 + i * 4)) (f (1 + i * 4 + 1)) (f (1 + i * 4 + 2)) (f (1 + i * 4 + 3))
theorem Md.cell {w : World} {t : Nat} {f : Nat → Int} (h : Md w t f) {o : Nat} (ho : o < 1461) : w.cell? ⟨t, o, none⟩ = some (.int .i64 (f o)) := by
  obtain ⟨⟨el, hh⟩, _⟩ := h
  rw [cell_blk hh o]
  exact cellsF_get f ho
theorem Md.at {w w' : World} {t : Nat} {f : Nat → Int} (h : Md w t f) (m : Mod none' w w') : Md w' t f := (It.blk t (cellsF f 1461)).st h m (fun _ _ h => h)
theorem md_only {t : Nat} {f : Nat → Int} {w : World} (F' : Nat → Prop) (h : (It.blk t (cellsF f 1461)).P w F') : F' = fun k => k = t := h.2
def MdA (w : World) (t : Nat) (f' : Nat → Int) (w' : World) : Prop := Md w' t f' ∧ Mod (fun k => k = t) w w'
theorem Hp.md {W w : World} {l : List It} (h : Hp W w l) (j : Nat) {t : Nat} {f : Nat → Int} (hj : l[j]? = some (.blk t (cellsF f 1461))) :
    Md w t f ∧ W.heap.size ≤ t ∧ (∀ f' w' R, MdA w t f' w' → (∃ Gs, Sep w.heap.size w' R Gs) → Hp W w' (l.set j (.blk t (cellsF f' 1461)) ++ R)) ∧ ∀ f' w', MdA w t f' w' → Hp W w' (l.set j (.blk t (cellsF f' 1461))) := by
  obtain ⟨F, ⟨h1, rfl⟩, h2, h4⟩ := h.upR j hj
  refine ⟨⟨h1, rfl⟩, h2 t rfl, fun f' w' R ⟨q1, q2⟩ hR => h4 _ w' _ R q2 q1 (fun k hk => hk) hR, fun f' w' ⟨q1, q2⟩ => ?_⟩
  have := h4 _ w' _ [] q2 q1 (fun k hk => hk) ⟨[], trivial⟩
  rwa [List.append_nil] at this

theorem is_c {w : World} (c : Int) : Calls Try.prog 42 [.int .i64 c].toArray w (Ret fun r w' => r = .bool (isC c) ∧ w' = w) := by
  refine F_sound c42 (by simp [fc42]) ?_
  simp [fc42, s42, isC]
theorem is2_c {w : World} (c : Int) : Calls Try.prog 43 [.int .i64 c].toArray w (Ret fun r w' => r = .bool (isC c) ∧ w' = w) := by
  refine F_sound c43 (by simp [fc43]) ?_
  simp [fc43, s43, isC]

def statV (f : Nat → Int) (c : Int) : Value := if isC c = true then .tuple #[.int .i64 (f (ctxO c)), .int .i64 (f (ctxO c + 1)), .int .i64 (f (ctxO c + 2)), .int .i64 (f (ctxO c + 3))] else .tuple #[.int .i64 0, .int .i64 0, .int .i64 0, .int .i64 0]
theorem stat_c {w : World} {t : Nat} {f : Nat → Int} (h : Md w t f) (c : Int) : Calls Try.prog 22 [.pointer (some ⟨t, 0, none⟩), .int .i64 c].toArray w (Ret fun r w' => r = statV f c ∧ Mod none' w w') := by
  refine F_sound c22 (by simp [fc22]) ?_
  obtain ⟨i4, hi4, hz4⟩ : ∃ i, Try.prog.info? 71 = some i ∧ i.zero = some (.agg #[.int .i64 0, .int .i64 0, .int .i64 0, .int .i64 0]) := ⟨_, rfl, rfl⟩
  simp [fc22, s22]
  refine callp (is_c c) (by simp) ?_
  cases hc : isC c
  · simp
    refine ite_r (t := true) (by simp) (fun _ => ?_) (fun h => by cases h)
    simp [statV, hc]
    exact Mod.refl _ _
  obtain ⟨C, rfl⟩ : ∃ C : Nat, c = C := ⟨c.toNat, by have := isC_iff.1 hc; omega⟩
  have hC := isC_iff.1 hc
  have a0 := h.cell (o := 1 + C * 4) (by omega)
  have a1 := h.cell (o := 1 + C * 4 + 1) (by omega)
  have a2 := h.cell (o := 1 + C * 4 + 2) (by omega)
  have a3 := h.cell (o := 1 + C * 4 + 3) (by omega)
  have eO : ctxO C = 1 + C * 4 := by unfold ctxO; rw [Int.toNat_natCast]
  rw [statV, if_pos hc, eO]
  simp
  refine ite_r (t := false) (by simp) (fun h => by cases h) (fun _ => ?_)
  simp [cellsFrom, a0, a1, a2, a3]
  refine ⟨hC.2, fun j hj => by
    obtain rfl | rfl | rfl | rfl : j = 0 ∨ j = 1 ∨ j = 2 ∨ j = 3 := by omega
    all_goals simp [a0, a1, a2, a3], ?_⟩
  generalize f (1 + C * 4) = y0 at *
  generalize f (1 + C * 4 + 1) = y1 at *
  generalize f (1 + C * 4 + 2) = y2 at *
  generalize f (1 + C * 4 + 3) = y3 at *
  refine alloc_h (Hp.nil w) hi4 hz4 ?_
  intro u w1 H _
  refine ⟨.inl rfl, ?_⟩
  replace H : Hp w w1 [.blk u #[.int .i64 0, .int .i64 0, .int .i64 0, .int .i64 0]] := H
  refine stAll_h 0 H rfl (v := four y0 y1 y2 y3) (by simp) (by simp [four]) rfl rfl (by simp [Value.cells, four]) ?_
  intro w2 H
  refine ⟨.inl rfl, ?_⟩
  obtain ⟨c0, c1, c2, c3⟩ := blk4 (H.blk 0 rfl)
  simp [c0, c1, c2, c3]
  exact H.mod.drew
theorem stat2_c {w : World} {t : Nat} {f : Nat → Int} (h : Md w t f) (c : Int) : Calls Try.prog 45 [.pointer (some ⟨t, 0, none⟩), .int .i64 c].toArray w (Ret fun r w' => r = statV f c ∧ Mod none' w w') := by
  refine F_sound c45 (by simp [fc45]) ?_
  simp [fc45, s45]
  refine callp (is2_c c) (by simp) ?_
  cases hc : isC c
  · simp
    refine ite_r (t := true) (by simp) (fun _ => ?_) (fun h => by cases h)
    simp [statV, hc]
    exact Mod.refl _ _
  obtain ⟨C, rfl⟩ : ∃ C : Nat, c = C := ⟨c.toNat, by have := isC_iff.1 hc; omega⟩
  have hC := isC_iff.1 hc
  have a0 := h.cell (o := 1 + C * 4) (by omega)
  have a1 := h.cell (o := 1 + C * 4 + 1) (by omega)
  have a2 := h.cell (o := 1 + C * 4 + 2) (by omega)
  have a3 := h.cell (o := 1 + C * 4 + 3) (by omega)
  have eO : ctxO C = 1 + C * 4 := by unfold ctxO; rw [Int.toNat_natCast]
  rw [statV, if_pos hc, eO]
  simp
  refine ite_r (t := false) (by simp) (fun h => by cases h) (fun _ => ?_)
  simp [a0, a1, a2, a3]
  exact ⟨hC.2, (Mod.refl _ _).drew⟩

def kGo (n a : Int) : Nat → Nat → Nat
  | 0, k => k
  | m + 1, k => if n * 2 ^ k < a then kGo n a m (k + 1) else k
def kOf (f : Nat → Int) (c : Int) : Nat := if isC c = true then kGo (f (ctxO c)) (f (ctxO c + 1)) 31 0 else 0
theorem kGo_le (n a : Int) (hn : 1 ≤ n) (ha : a ≤ 2 ^ 22) : ∀ m k : Nat, k ≤ 22 → kGo n a m k ≤ 22
  | 0, k, h => h
  | m + 1, k, h => by
    unfold kGo
    split
    · rename_i hlt
      refine kGo_le n a hn ha m (k + 1) ?_
      by_cases hk : k = 22
      · subst hk
        have : (1 : Int) * 2 ^ 22 ≤ n * 2 ^ 22 := Int.mul_le_mul_of_nonneg_right hn (by decide)
        omega
      · omega
    · exact h
theorem WfS.two {n a b c : Int} (h : WfS n a b c) : a ≤ 2 ^ 22 := by
  obtain ⟨⟨h1, h2⟩, ⟨h3, h4⟩, _⟩ := h
  have : (2 : Int) ^ 22 = 4194304 := by decide
  omega
theorem kOf_le {f : Nat → Int} (hf : Wf f) (c : Int) : kOf f c ≤ 22 := by
  unfold kOf
  split
  · rename_i h
    have hc := isC_iff.1 h
    have hw := hf.2 c.toNat (by omega)
    exact kGo_le _ _ hw.1.1 hw.two 31 0 (by omega)
  · omega
theorem shl_k {n : Int} {k : Nat} (h0 : 1 ≤ n) (h1 : n ≤ 64) (hk : k ≤ 22) : shl .i64 n k = n * 2 ^ k := by
  have h2 : (2 : Int) ^ k ≤ 2 ^ 22 := by
    have := Nat.pow_le_pow_right (show 0 < 2 by decide) hk
    exact_mod_cast this
  have h3 : (0 : Int) ≤ 2 ^ k := by exact_mod_cast Nat.zero_le (2 ^ k)
  have h4 : n * 2 ^ k ≤ 64 * 2 ^ 22 := Int.le_trans (Int.mul_le_mul_of_nonneg_left h2 (by omega)) (Int.mul_le_mul_of_nonneg_right h1 (by decide))
  have h5 : (0 : Int) ≤ n * 2 ^ k := Int.mul_nonneg (by omega) h3
  have h6 : (64 : Int) * 2 ^ 22 = 268435456 := by decide
  rw [shl_int _ _ _ (by simp only [IntKind.bits]; omega)]
  push_cast
  exact wI (by omega) (by omega)
theorem k_c {w : World} {t : Nat} {f : Nat → Int} (h : Md w t f) (hf : Wf f) (c : Int) : Calls Try.prog 37 [.pointer (some ⟨t, 0, none⟩), .int .i64 c].toArray w (Ret fun r w' => r = .int .i64 (kOf f c) ∧ Mod none' w w') := by
  refine F_sound c37 (by simp [fc37]) ?_
  simp [fc37, s37]
  refine callp (is_c c) (by simp) ?_
  cases hc : isC c
  · simp
    refine ite_r (t := true) (by simp) (fun _ => ?_) (fun h => by cases h)
    simp [kOf, hc]
    exact Mod.refl _ _
  obtain ⟨C, rfl⟩ : ∃ C : Nat, c = C := ⟨c.toNat, by have := isC_iff.1 hc; omega⟩
  have hC := isC_iff.1 hc
  have eO : ctxO C = 1 + C * 4 := by unfold ctxO; rw [Int.toNat_natCast]
  have hw := hf.2 C (by omega)
  rw [kOf, if_pos hc, eO]
  simp
  refine ite_r (t := false) (by simp) (fun h => by cases h) (fun _ => ?_)
  simp
  refine loop_r (fun m env' w' => ∃ k : Nat, m = 30 - k ∧ k ≤ 22 ∧ env' 0 = .pointer (some ⟨t, 0, none⟩) ∧ env' 1 = .int .i64 C ∧ env' 5 = .int .i64 k ∧ kGo (f (1 + C * 4)) (f (1 + C * 4 + 1)) (31 - k) k = kGo (f (1 + C * 4)) (f (1 + C * 4 + 1)) 31 0 ∧ Mod none' w w') 30
    ⟨0, by omega, by omega, by simp, by simp, by simp, rfl, Mod.refl _ _⟩ ?_
  rintro m env w' ⟨k, rfl, hk, e0, e1, e5, hgo, M⟩
  have h' := (h.at M).at (Mod.refl _ w').drew
  have a0 := h'.cell (o := 1 + C * 4) (by omega)
  have a1 := h'.cell (o := 1 + C * 4 + 1) (by omega)
  generalize f (1 + C * 4) = y0 at *
  generalize f (1 + C * 4 + 1) = y1 at *
  simp at a0 a1
  have hs := shl_k hw.1.1 hw.1.2 hk
  simp [e0, e1, e5, a0, a1, hs]
  refine ⟨hC.2, ?_⟩
  have hun : kGo y0 y1 (31 - k) k = if y0 * 2 ^ k < y1 then kGo y0 y1 (31 - (k + 1)) (k + 1) else k := by
    rw [show 31 - k = (31 - (k + 1)) + 1 by omega, kGo]
  by_cases hlt : y0 * 2 ^ k < y1
  · rw [if_pos hlt] at hun
    have hk2 : k < 22 := by
      refine Nat.lt_of_not_le fun hge => ?_
      obtain rfl : k = 22 := by omega
      have h1 : (1 : Int) * 2 ^ 22 ≤ y0 * 2 ^ 22 := Int.mul_le_mul_of_nonneg_right hw.1.1 (by decide)
      have h2 := hw.two
      omega
    have wk : IntKind.i64.wrap ((k : Int) + 1) = ((k + 1 : Nat) : Int) := by rw [wI (by omega) (by omega)]; omega
    refine ite_r (t := true) (by simp [hlt]) (fun _ => ?_) (fun h => by cases h)
    simp [wp_blk, e0, e1, e5, wk, -Int.natCast_add]
    exact ⟨30 - (k + 1), by omega, k + 1, rfl, by omega, rfl, by rw [← hun, hgo], M.drew⟩
  · rw [if_neg hlt] at hun
    refine ite_r (t := false) (by simp [hlt]) (fun h => by cases h) (fun _ => ?_)
    simp [e5]
    exact ⟨by rw [← hgo, hun], M.drew⟩
theorem k2_c {w : World} {t : Nat} {f : Nat → Int} (h : Md w t f) (hf : Wf f) (c : Int) : Calls Try.prog 46 [.pointer (some ⟨t, 0, none⟩), .int .i64 c].toArray w (Ret fun r w' => r = .int .i64 (kOf f c) ∧ Mod none' w w') := by
  refine F_sound c46 (by simp [fc46]) ?_
  simp [fc46, s46]
  refine callp (is2_c c) (by simp) ?_
  cases hc : isC c
  · simp
    refine ite_r (t := true) (by simp) (fun _ => ?_) (fun h => by cases h)
    simp [kOf, hc]
    exact Mod.refl _ _
  obtain ⟨C, rfl⟩ : ∃ C : Nat, c = C := ⟨c.toNat, by have := isC_iff.1 hc; omega⟩
  have hC := isC_iff.1 hc
  have eO : ctxO C = 1 + C * 4 := by unfold ctxO; rw [Int.toNat_natCast]
  have hw := hf.2 C (by omega)
  rw [kOf, if_pos hc, eO]
  simp
  refine ite_r (t := false) (by simp) (fun h => by cases h) (fun _ => ?_)
  simp
  refine loop_r (fun m env' w' => ∃ k : Nat, m = 30 - k ∧ k ≤ 22 ∧ env' 0 = .pointer (some ⟨t, 0, none⟩) ∧ env' 1 = .int .i64 C ∧ env' 5 = .int .i64 k ∧ kGo (f (1 + C * 4)) (f (1 + C * 4 + 1)) (31 - k) k = kGo (f (1 + C * 4)) (f (1 + C * 4 + 1)) 31 0 ∧ Mod none' w w') 30
    ⟨0, by omega, by omega, by simp, by simp, by simp, rfl, Mod.refl _ _⟩ ?_
  rintro m env w' ⟨k, rfl, hk, e0, e1, e5, hgo, M⟩
  have h' := (h.at M).at (Mod.refl _ w').drew
  have a0 := h'.cell (o := 1 + C * 4) (by omega)
  have a1 := h'.cell (o := 1 + C * 4 + 1) (by omega)
  generalize f (1 + C * 4) = y0 at *
  generalize f (1 + C * 4 + 1) = y1 at *
  simp at a0 a1
  have hs := shl_k hw.1.1 hw.1.2 hk
  have wk0 : IntKind.u64.wrap (k : Int) = (k : Int) := wU (by omega) (by omega)
  simp [e0, e1, e5, a0, a1, wk0, hs]
  refine ⟨hC.2, ?_⟩
  have hun : kGo y0 y1 (31 - k) k = if y0 * 2 ^ k < y1 then kGo y0 y1 (31 - (k + 1)) (k + 1) else k := by
    rw [show 31 - k = (31 - (k + 1)) + 1 by omega, kGo]
  by_cases hlt : y0 * 2 ^ k < y1
  · rw [if_pos hlt] at hun
    have hk2 : k < 22 := by
      refine Nat.lt_of_not_le fun hge => ?_
      obtain rfl : k = 22 := by omega
      have h1 : (1 : Int) * 2 ^ 22 ≤ y0 * 2 ^ 22 := Int.mul_le_mul_of_nonneg_right hw.1.1 (by decide)
      have h2 := hw.two
      omega
    have wk : IntKind.i64.wrap ((k : Int) + 1) = ((k + 1 : Nat) : Int) := by rw [wI (by omega) (by omega)]; omega
    refine ite_r (t := true) (by simp [hlt]) (fun _ => ?_) (fun h => by cases h)
    simp [wp_blk, e0, e1, e5, wk, -Int.natCast_add]
    exact ⟨30 - (k + 1), by omega, k + 1, rfl, by omega, rfl, by rw [← hun, hgo], M.drew⟩
  · rw [if_neg hlt] at hun
    refine ite_r (t := false) (by simp [hlt]) (fun h => by cases h) (fun _ => ?_)
    simp [e5]
    exact ⟨by rw [← hgo, hun], M.drew⟩

def gueI (f : Nat → Int) (c g : Int) (turned : Bool) : Int := if isC c = true ∧ 0 ≤ g ∧ g < p2 (f 0) then mnI (mxI (g + (if turned = true then -(f (ctxO c + 3)) else f (ctxO c + 3))) 0) (p2 (f 0) - 1) else 0
set_option maxHeartbeats 1000000 in
theorem gue_c {w : World} {t : Nat} {f : Nat → Int} (h : Md w t f) (hf : Wf f) (c g : Int) (T : Bool) : Calls Try.prog 38 [.pointer (some ⟨t, 0, none⟩), .int .i64 c, .int .i64 g, .bool T].toArray w (Ret fun r w' => r = .int .i64 (gueI f c g T) ∧ Mod none' w w') := by
  refine F_sound c38 (by simp [fc38]) ?_
  have hd' := dep_iff.1 hf.1
  have hp := p2_bd hd'.2
  have hs := shl_p2 (d := f 0) (by omega) (by omega)
  have cz := h.cell (o := 0) (by omega)
  have w1 : IntKind.i64.wrap (p2 (f 0) - 1) = p2 (f 0) - 1 := wI (by omega) (by omega)
  simp [fc38, s38, cz, hs, w1]
  refine ⟨by omega, ?_⟩
  refine callp (is_c c) (by simp) ?_
  by_cases hok : isC c = true ∧ 0 ≤ g ∧ g < p2 (f 0)
  rotate_left
  · rw [gueI, if_neg hok]
    cases hc : isC c
    · simp
      refine ite_r (t := true) (by simp) (fun _ => ?_) (fun h => by cases h)
      simp
      exact Mod.refl _ _
    · have : ¬ (0 ≤ g ∧ g < p2 (f 0)) := fun h => hok ⟨hc, h⟩
      simp
      refine ite_r (t := true) (by simp; omega) (fun _ => ?_) (fun h => by cases h)
      simp
      exact Mod.refl _ _
  rw [gueI, if_pos hok]
  obtain ⟨hc, hg0, hg1⟩ := hok
  obtain ⟨C, rfl⟩ : ∃ C : Nat, c = C := ⟨c.toNat, by have := isC_iff.1 hc; omega⟩
  have hC := isC_iff.1 hc
  have eO : ctxO C = 1 + C * 4 := by unfold ctxO; rw [Int.toNat_natCast]
  have hw := hf.2 C (by omega)
  have a3 := h.cell (o := 1 + C * 4 + 3) (by omega)
  have hb3 := hw.2.2.2
  rw [eO]
  generalize f (1 + C * 4 + 3) = y3 at *
  simp [hc]
  refine ite_r (t := false) (by simp; omega) (fun h => by cases h) (fun _ => ?_)
  simp [a3]
  refine ⟨hC.2, ?_⟩
  have w2 : IntKind.i64.wrap (-y3) = -y3 := wI (by omega) (by omega)
  have w3 : IntKind.i64.wrap (g + -y3) = g + -y3 := wI (by omega) (by omega)
  have w4 : IntKind.i64.wrap (g + y3) = g + y3 := wI (by omega) (by omega)
  cases T
  · refine ite_r (t := false) (by simp) (fun h => by cases h) (fun _ => ?_)
    simp [w4, mxI, mnI]
    exact Mod.refl _ _
  · refine ite_r (t := true) (by simp) (fun _ => ?_) (fun h => by cases h)
    simp [w2, w3, mxI, mnI]
    exact Mod.refl _ _

set_option maxHeartbeats 1000000 in
theorem gue2_c {w : World} {t : Nat} {f : Nat → Int} (h : Md w t f) (hf : Wf f) (c g : Int) (T : Bool) : Calls Try.prog 47 [.pointer (some ⟨t, 0, none⟩), .int .i64 c, .int .i64 g, .bool T].toArray w (Ret fun r w' => r = .int .i64 (gueI f c g T) ∧ Mod none' w w') := by
  refine F_sound c47 (by simp [fc47]) ?_
  have hd' := dep_iff.1 hf.1
  have hp := p2_bd hd'.2
  have hs := shl_p2 (d := f 0) (by omega) (by omega)
  have wd : IntKind.u64.wrap (f 0) = f 0 := wU (by omega) (by omega)
  have w1 : IntKind.i64.wrap (p2 (f 0) - 1) = p2 (f 0) - 1 := wI (by omega) (by omega)
  simp [fc47, s47]
  refine callp (is2_c c) (by simp) ?_
  cases hc : isC c
  · simp
    refine ifg_r (t := true) (by simp) (fun h => by cases h) (fun _ => ?_)
    simp
    refine ifg_r (t := true) (by simp) (fun h => by cases h) (fun _ => ?_)
    simp
    refine ite_r (t := true) (by simp) (fun _ => ?_) (fun h => by cases h)
    simp [gueI, hc]
    exact Mod.refl _ _
  simp
  refine ifg_r (t := false) (by simp) (fun _ => ?_) (fun h => (h rfl).elim)
  refine bs_h slTI (([g] : List Int).map fun n => .int .i64 n) (Hp.nil w) rfl (by decide) (by simp) (by simp [Value.cells]) ?_
  intro cv w2 H M2
  refine ⟨.inl rfl, ?_⟩
  rw [flat_ints] at H
  have h2 := h.at M2
  have cz := h2.cell (o := 0) (by omega)
  simp [cz]
  refine ifg_r (t := false) (by simp) (fun _ => ?_) (fun h => (h rfl).elim)
  refine callp (within2_c (l := [g]) (f 0) (H.rd 0 rfl) (by unfold maxLen; simp) hf.1) (by simp) ?_
  cases hg : ([g] : List Int).all (inD (f 0))
  · have hgg : ¬ (0 ≤ g ∧ g < p2 (f 0)) := fun h => by simp [inD] at hg; omega
    simp
    refine ite_r (t := true) (by simp) (fun _ => ?_) (fun h => by cases h)
    rw [gueI, if_neg (fun h => hgg h.2)]
    simp
    exact H.mod
  have hgg : 0 ≤ g ∧ g < p2 (f 0) := by simpa [inD] using hg
  rw [gueI, if_pos ⟨hc, hgg⟩]
  simp
  refine ite_r (t := false) (by simp) (fun h => by cases h) (fun _ => ?_)
  obtain ⟨C, rfl⟩ : ∃ C : Nat, c = C := ⟨c.toNat, by have := isC_iff.1 hc; omega⟩
  have hC := isC_iff.1 hc
  have eO : ctxO C = 1 + C * 4 := by unfold ctxO; rw [Int.toNat_natCast]
  have hw := hf.2 C (by omega)
  have a3 := h2.cell (o := 1 + C * 4 + 3) (by omega)
  have hb3 := hw.2.2.2
  rw [eO]
  generalize f (1 + C * 4 + 3) = y3 at *
  simp [a3]
  refine ⟨hC.2, ?_⟩
  have w2 : IntKind.i64.wrap (-y3) = -y3 := wI (by omega) (by omega)
  have w3 : IntKind.i64.wrap (g + -y3) = g + -y3 := wI (by omega) (by omega)
  have w4 : IntKind.i64.wrap (g + y3) = g + y3 := wI (by omega) (by omega)
  cases T
  · refine ite_r (t := false) (by simp) (fun h => by cases h) (fun _ => ?_)
    simp [cz, w1, w4, wd, hs, mxI, mnI]
    exact ⟨by omega, H.mod⟩
  · refine ite_r (t := true) (by simp) (fun _ => ?_) (fun h => by cases h)
    simp [cz, w1, w2, w3, wd, hs, mxI, mnI]
    exact ⟨by omega, H.mod⟩

end Go.Proofs.Ytcljnpodfhgjkaa.VG
