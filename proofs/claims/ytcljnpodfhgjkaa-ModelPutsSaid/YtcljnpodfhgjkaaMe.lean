/-
  Model: a new model; what is learnt.
-/
import Derived.Test.YtcljnpodfhgjkaaMd
namespace Go.Proofs.Ytcljnpodfhgjkaa.VG
open Go
set_option linter.unusedSimpArgs false
set_option linter.unusedVariables false
set_option maxRecDepth 20000

def firstA (d : Int) : Int := mxI 2 ((p2 d + 32) / 64)
def newP (d : Int) (k : Nat) : Nat → Int := fun i => if i = 0 then d else if i < 1 + k * 4 then (if (i - 1) % 4 = 0 then 1 else if (i - 1) % 4 = 1 then firstA d else 0) else 0
def newF (d : Int) : Nat → Int := newP d 365
theorem newP_up (d : Int) (k : Nat) : up4 (newP d k) (1 + k * 4) 1 (firstA d) 0 0 = newP d (k + 1) := by
  funext i
  simp only [up4, upF, newP]
  by_cases h0 : i = 0
  · subst h0; simp; (repeat' split) <;> omega
  · by_cases h1 : i < 1 + k * 4
    · rw [if_neg (by omega), if_neg (by omega), if_neg (by omega), if_neg (by omega), if_neg h0, if_pos h1, if_neg h0, if_pos (show i < 1 + (k + 1) * 4 by omega)]
    · by_cases h2 : i < 1 + (k + 1) * 4
      · obtain rfl | rfl | rfl | rfl : i = 1 + k * 4 ∨ i = 1 + k * 4 + 1 ∨ i = 1 + k * 4 + 2 ∨ i = 1 + k * 4 + 3 := by omega
        · rw [if_neg (by omega), if_neg (by omega), if_neg (by omega), if_pos rfl, if_neg h0, if_pos h2, if_pos (by omega)]
        · rw [if_neg (by omega), if_neg (by omega), if_pos rfl, if_neg h0, if_pos h2, if_neg (by omega), if_pos (by omega)]
        · rw [if_neg (by omega), if_pos rfl, if_neg h0, if_pos h2, if_neg (by omega), if_neg (by omega)]
        · rw [if_pos rfl, if_neg h0, if_pos h2, if_neg (by omega), if_neg (by omega)]
      · rw [if_neg (by omega), if_neg (by omega), if_neg (by omega), if_neg (by omega), if_neg h0, if_neg h1, if_neg h0, if_neg h2]
theorem zagg_new (d : Int) : (Array.replicate 1461 (Value.int .i64 0)).setIfInBounds 0 (.int .i64 d) = cellsF (newP d 0) 1461 := by
  have e : (Array.replicate 1461 (Value.int .i64 0)) = cellsF (fun _ => 0) 1461 := by
    apply Array.ext'
    rw [Array.toList_replicate]
    simp only [cellsF]
    rw [List.map_const']
    simp
  rw [e, cellsF_set]
  congr 1
  funext i
  simp only [upF, newP]
  by_cases h0 : i = 0
  · rw [if_pos h0, if_pos h0]
  · rw [if_neg h0, if_neg h0, if_neg (by omega)]
theorem firstA_bd {d : Int} (h : dep d = true) : 2 ≤ firstA d ∧ firstA d ≤ 1024 := by
  have h1 := dep_iff.1 h
  have h2 := p2_bd h1.2
  unfold firstA mxI
  split <;> omega
theorem newF_wf {d : Int} (h : dep d = true) : Wf (newF d) := by
  have hb := firstA_bd h
  refine ⟨by simpa [newF, newP] using h, fun i hi => ?_⟩
  have e0 : newF d (1 + i * 4) = 1 := by simp only [newF, newP]; rw [if_neg (by omega), if_pos (by omega), if_pos (by omega)]
  have e1 : newF d (1 + i * 4 + 1) = firstA d := by simp only [newF, newP]; rw [if_neg (by omega), if_pos (by omega), if_neg (by omega), if_pos (by omega)]
  have e2 : newF d (1 + i * 4 + 2) = 0 := by simp only [newF, newP]; rw [if_neg (by omega), if_pos (by omega), if_neg (by omega), if_neg (by omega)]
  have e3 : newF d (1 + i * 4 + 3) = 0 := by simp only [newF, newP]; rw [if_neg (by omega), if_pos (by omega), if_neg (by omega), if_neg (by omega)]
  rw [e0, e1, e2, e3]
  unfold WfS
  omega
theorem firstA_c {d : Int} (h : dep d = true) : IntKind.i64.wrap (p2 d + 32) = p2 d + 32 ∧ (p2 d + 32).tdiv 64 = (p2 d + 32) / 64 ∧ IntKind.i64.wrap ((p2 d + 32) / 64) = (p2 d + 32) / 64 := by
  have h1 := dep_iff.1 h
  have h2 := p2_bd h1.2
  exact ⟨wI (by omega) (by omega), Int.tdiv_eq_ediv_of_nonneg (by omega), wI (by omega) (by omega)⟩

def NewR (w : World) (d : Int) (r : Value) (w' : World) : Prop :=
  (dep d = false ∧ r = .tuple #[.pointer none, .int .i64 1] ∧ Mod none' w w') ∨ dep d = true ∧ ∃ t, r = .tuple #[.pointer (some ⟨t, 0, none⟩), .int .i64 0] ∧ Hp w w' [.blk t (cellsF (newF d) 1461)]
set_option maxHeartbeats 2000000 in
theorem mnew_c {w : World} (d : Int) : Calls Try.prog 14 [.int .i64 d].toArray w (Ret fun r w' => NewR w d r w') := by
  refine F_sound c14 (by simp [fc14]) ?_
  simp [fc14, s14]
  refine callp (valid_c d) (by simp) ?_
  cases hd : dep d
  · simp
    refine ite_r (t := true) (by simp) (fun _ => ?_) (fun h => by cases h)
    simp [NewR, hd]
    exact Mod.refl _ _
  have hd' := dep_iff.1 hd
  have hp := p2_bd hd'.2
  have hs := shl_p2 (d := d) (by omega) (by omega)
  obtain ⟨w1, w2, w3⟩ := firstA_c hd
  simp
  refine ite_r (t := false) (by simp) (fun h => by cases h) (fun _ => ?_)
  simp [zagg, putAt, Value.cells]
  refine box_h (.agg (cellsF (newP d 0) 1461)) (Hp.nil w) (by simp [putAt, Value.cells, zagg, zagg_new]) ?_
  intro t wt H _
  refine ⟨.inl rfl, ?_⟩
  have ec : ∀ k, (Value.agg (cellsF (newP d k) 1461)).cells = cellsF (newP d k) 1461 := fun k => rfl
  rw [ec] at H
  simp
  refine for_r 365 (fun i env' w' => env' 0 = .int .i64 d ∧ env' 4 = .pointer (some ⟨t, 0, none⟩) ∧ env' 12 = .int .i64 i ∧ Hp w w' [.blk t (cellsF (newP d i) 1461)]) ?_ ?_ ?_
  · simp
    exact H
  · rintro i env w' hi ⟨e0, e4, e12, H⟩
    have wi : IntKind.i64.wrap ((i : Int) + 1) = ((i + 1 : Nat) : Int) := by rw [wI (by omega) (by omega)]; omega
    simp [e12]
    refine ite_r (t := true) (by simp; omega) (fun _ => ?_) (fun h => by cases h)
    replace H := H.drew
    simp [wp_blk, e0, e4, e12, hs, w1, w2, w3, putAt, Value.cells]
    refine ⟨by omega, by omega, ?_⟩
    refine stN_h (b := t) (c := cellsF (newP d i) 1461) 0 H rfl (o := 1 + i * 4) (v := four 1 (firstA d) 0 0) (by simp [e4, e12]) (by simp [e0, hs, w1, w2, w3, putAt, Value.cells, four, firstA, mxI]) rfl (by rw [cellsF_size]; omega) (by simp [Value.cells, four]) ?_
    intro w2 H
    refine ⟨.inl rfl, ?_⟩
    rw [cellsF_set4 _ (by omega), newP_up] at H
    simp [e0, e4, e12, wi, -Int.natCast_add]
    exact ⟨by omega, H⟩
  · rintro env w' ⟨e0, e4, e12, H⟩
    simp [e12]
    refine ite_r (t := false) (by simp) (fun h => by cases h) (fun _ => ?_)
    simp [e4, NewR, hd]
    exact H

set_option maxHeartbeats 2000000 in
theorem mnew2_c {w : World} (d : Int) : Calls Try.prog 15 [.int .i64 d].toArray w (Ret fun r w' => NewR w d r w') := by
  refine F_sound c15 (by simp [fc15]) ?_
  simp [fc15, s15]
  refine callp (dep2_c d) (by simp) ?_
  cases hd : dep d
  · simp
    refine ite_r (t := true) (by simp) (fun _ => ?_) (fun h => by cases h)
    simp [NewR, hd]
    exact Mod.refl _ _
  have hd' := dep_iff.1 hd
  have hp := p2_bd hd'.2
  have wd : IntKind.u64.wrap d = d := wU (by omega) (by omega)
  have hs := shl_p2 (d := d) (by omega) (by omega)
  obtain ⟨w1, w2, w3⟩ := firstA_c hd
  simp
  refine ite_r (t := false) (by simp) (fun h => by cases h) (fun _ => ?_)
  simp [zagg, putAt, Value.cells]
  refine box_h (.agg (cellsF (newP d 0) 1461)) (Hp.nil w) (by simp [putAt, Value.cells, zagg, zagg_new]) ?_
  intro t wt H _
  refine ⟨.inl rfl, ?_⟩
  have ec : ∀ k, (Value.agg (cellsF (newP d k) 1461)).cells = cellsF (newP d k) 1461 := fun k => rfl
  rw [ec] at H
  simp
  refine for_r 365 (fun i env' w' => env' 0 = .int .i64 d ∧ env' 4 = .pointer (some ⟨t, 0, none⟩) ∧ env' 5 = .int .i64 i ∧ Hp w w' [.blk t (cellsF (newP d i) 1461)]) ?_ ?_ ?_
  · simp
    exact H
  · rintro i env w' hi ⟨e0, e4, e5, H⟩
    have wi : IntKind.i64.wrap ((i : Int) + 1) = ((i + 1 : Nat) : Int) := by rw [wI (by omega) (by omega)]; omega
    simp [e5]
    refine ite_r (t := true) (by simp; omega) (fun _ => ?_) (fun h => by cases h)
    simp [wp_blk, e0, e4, e5, wd, hs, w1, w2, w3, putAt, Value.cells]
    refine ⟨by omega, by omega, ?_⟩
    refine stN_h (b := t) (c := cellsF (newP d i) 1461) 0 H rfl (o := 1 + i * 4) (v := four 1 (firstA d) 0 0) (by simp [e4, e5]) (by simp [e0, wd, hs, w1, w2, w3, putAt, Value.cells, four, firstA, mxI]) rfl (by rw [cellsF_size]; omega) (by simp [Value.cells, four]) ?_
    intro w2 H
    refine ⟨.inl rfl, ?_⟩
    rw [cellsF_set4 _ (by omega), newP_up] at H
    simp [e0, e4, e5, wi, -Int.natCast_add]
    exact ⟨by omega, H⟩
  · rintro env w' ⟨e0, e4, e5, H⟩
    simp [e5]
    refine ite_r (t := false) (by simp) (fun h => by cases h) (fun _ => ?_)
    simp [e4, NewR, hd]
    exact H

/-- What is learnt. -/
def lnN (n : Int) : Int := if n = 64 then 33 else n + 1
def lnA (n a e : Int) : Int := if n = 64 then (a + farI e) / 2 else a + farI e
def lnB1 (n b e : Int) : Int := if n = 64 then (b + e) / 2 else b + e
def lnB (n b e : Int) : Int := if lnB1 n b e ≤ -(lnN n) then mxI (lnB1 n b e + lnN n) (1 - lnN n) else if 0 < lnB1 n b e then mnI (lnB1 n b e - lnN n) 0 else lnB1 n b e
def lnC (n b c e : Int) : Int := if lnB1 n b e ≤ -(lnN n) then mxI (c - 1) (-128) else if 0 < lnB1 n b e then mnI (c + 1) 127 else c
def isE (d e : Int) : Bool := decide (-(p2 (d - 1)) ≤ e) && decide (e < p2 (d - 1))
theorem isE_iff {d e : Int} : isE d e = true ↔ -(p2 (d - 1)) ≤ e ∧ e < p2 (d - 1) := by simp [isE]
def lrn (f : Nat → Int) (c e : Int) : Nat → Int :=
  if isC c = true ∧ isE (f 0) e = true then
    up4 f (ctxO c) (lnN (f (ctxO c))) (lnA (f (ctxO c)) (f (ctxO c + 1)) e) (lnB (f (ctxO c)) (f (ctxO c + 2)) e) (lnC (f (ctxO c)) (f (ctxO c + 2)) (f (ctxO c + 3)) e)
  else f
theorem lnS {n a b c e : Int} (h : WfS n a b c) (he : -32768 ≤ e ∧ e ≤ 32768) : WfS (lnN n) (lnA n a e) (lnB n b e) (lnC n b c e) := by
  unfold WfS at *
  have hf := farM_bd (x := e) (by omega)
  have hf2 : farI e ≤ 32768 := by unfold farI; split <;> omega
  have hB1 : lnB1 n b e = if n = 64 then (b + e) / 2 else b + e := rfl
  have hN : lnN n = if n = 64 then 33 else n + 1 := rfl
  have hA : lnA n a e = if n = 64 then (a + farI e) / 2 else a + farI e := rfl
  generalize farI e = u at *
  unfold lnB lnC mxI mnI
  generalize lnB1 n b e = b1 at *
  generalize lnN n = n1 at *
  generalize lnA n a e = a1 at *
  refine ⟨?_, ?_, ?_, ?_⟩
  · split at hN <;> omega
  · split at hN <;> split at hA <;> omega
  · split at hN <;> (repeat' split) <;> omega
  · (repeat' split) <;> omega
theorem up4_at (f : Nat → Int) (o : Nat) (a b c d : Int) : up4 f o a b c d o = a ∧ up4 f o a b c d (o + 1) = b ∧ up4 f o a b c d (o + 2) = c ∧ up4 f o a b c d (o + 3) = d ∧ ∀ i, (i < o ∨ o + 4 ≤ i) → up4 f o a b c d i = f i := by
  refine ⟨by simp [up4, upF], by simp [up4, upF], by simp [up4, upF], by simp [up4, upF], fun i hi => ?_⟩
  simp only [up4, upF]
  rw [if_neg (show i ≠ o + 3 by omega), if_neg (show i ≠ o + 2 by omega), if_neg (show i ≠ o + 1 by omega), if_neg (show i ≠ o by omega)]
theorem lrn_wf {f : Nat → Int} (hf : Wf f) (c e : Int) : Wf (lrn f c e) := by
  unfold lrn
  split
  · rename_i h
    obtain ⟨h1, h2⟩ := h
    have hc := isC_iff.1 h1
    have he := isE_iff.1 h2
    have hd := dep_iff.1 hf.1
    have hp := p2_bd (d := f 0 - 1) (by omega)
    have hp2 : p2 (f 0 - 1) ≤ 32768 := by
      have : p2 (f 0 - 1) ≤ p2 15 := by
        unfold p2
        have := Nat.pow_le_pow_right (show 0 < 2 by decide) (show (f 0 - 1).toNat ≤ (15 : Int).toNat by omega)
        omega
      have h15 : p2 15 = 32768 := by decide
      omega
    obtain ⟨u0, u1, u2, u3, u4⟩ := up4_at f (ctxO c) (lnN (f (ctxO c))) (lnA (f (ctxO c)) (f (ctxO c + 1)) e) (lnB (f (ctxO c)) (f (ctxO c + 2)) e) (lnC (f (ctxO c)) (f (ctxO c + 2)) (f (ctxO c + 3)) e)
    refine ⟨by rw [u4 0 (.inl (by unfold ctxO; omega))]; exact hf.1, fun i hi => ?_⟩
    by_cases hic : i = c.toNat
    · have hw := hf.2 i hi
      have eo : 1 + i * 4 = ctxO c := by unfold ctxO; rw [hic]
      rw [eo] at hw ⊢
      rw [u0, u1, u2, u3]
      exact lnS hw (by omega)
    · have hno : ∀ j, j < 4 → (1 + i * 4 + j < ctxO c ∨ ctxO c + 4 ≤ 1 + i * 4 + j) := fun j hj => by unfold ctxO; omega
      have h0 := hno 0 (by omega)
      rw [Nat.add_zero] at h0
      rw [u4 _ h0, u4 _ (hno 1 (by omega)), u4 _ (hno 2 (by omega)), u4 _ (hno 3 (by omega))]
      exact hf.2 i hi
  · exact hf

end Go.Proofs.Ytcljnpodfhgjkaa.VG
