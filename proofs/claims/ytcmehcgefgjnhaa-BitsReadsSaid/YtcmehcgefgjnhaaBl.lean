/-
  Bits: the law BitsReads.
-/
import Derived.Test.YtcmehcgefgjnhaaBk
namespace Go.Proofs.Ytcmehcgefgjnhaa.VG
open Go
set_option linter.unusedSimpArgs false
set_option linter.unusedVariables false

/-- Both readers are at the same place, in blocks of their own. -/
structure RY (W w : World) (a b : Nat) (F : Nat → Prop) (v : Value) (l : List Nat) (p : Nat) (e : Int) : Prop where
  rr : Rr w F a l p e
  yr : Yr w (fun k => k < W.heap.size) b v l p e
  own : Own W w F
  bf : ¬ F b

theorem RY.bW {W w : World} {a b : Nat} {F : Nat → Prop} {v : Value} {l : List Nat} {p : Nat} {e : Int} (h : RY W w a b F v l p e) : W.heap.size ≤ b := by
  have := h.yr.off; omega
theorem RY.other {W w w' : World} {a b : Nat} {F S : Nat → Prop} {v : Value} {l : List Nat} {p : Nat} {e : Int} (h : RY W w a b F v l p e) (m : Mod S w w') (hS : ∀ k, S k → W.heap.size ≤ k) (hF : ∀ k, F k → ¬ S k) (hb : ¬ S b) : RY W w' a b F v l p e :=
  ⟨h.rr.mod m hF, h.yr.mod m (fun k hk hk' => by have := hS k hk'; omega) hb, h.own.at (h.own.mod.far hS m), h.bf⟩
theorem RY.mid {W w w' : World} {a b : Nat} {F : Nat → Prop} {v : Value} {l : List Nat} {p p' : Nat} {e e' : Int} (h : RY W w a b F v l p e) (h1 : RrAfter w F a l p' e' w') : Yr w' (fun k => k < W.heap.size) b v l p e :=
  h.yr.mod h1.2 (fun k hk e => by have := h.own.far k (e ▸ h.rr.me); omega) (fun e => h.bf (e ▸ h.rr.me))
theorem RY.step {W w w1 w2 : World} {a b : Nat} {F : Nat → Prop} {v : Value} {l : List Nat} {p p' : Nat} {e e' : Int} (h : RY W w a b F v l p e) (h1 : RrAfter w F a l p' e' w1) (h2 : YrAfter w1 (fun k => k < W.heap.size) b v l p' e' w2) : RY W w2 a b F v l p' e' := by
  have o1 := h.own.step h1.2 (fun k hk => hk ▸ h.rr.me) (fun k hk => .inl hk)
  refine ⟨h1.1.mod h2.2 (fun k hk e => h.bf (e ▸ hk)), h2.1, o1.at (o1.mod.far (fun k hk => by have := h.bW; omega) h2.2), h.bf⟩

set_option maxHeartbeats 2000000 in
theorem reads_c {w : World} {vb v : Value} {l : List Nat} {xs : List Act} (hb : Rd (fun k => k < w.heap.size) w vb l.length (bytesV l)) (hbf : ∀ x ∈ l, x < 256) (hbm : l.length ≤ maxLen)
    (h : Rd (fun k => k < w.heap.size) w v xs.length (xs.map Act.cells).flatten) (hf : ∀ x ∈ xs, x.fits) (hlm : xs.length ≤ maxLen) :
    Calls Try.prog 9 [vb, v].toArray w (Ret fun r w' => r = .bool true ∧ Mod none' w w') := by
  refine F_sound c9 (by simp [fc9]) ?_
  obtain ⟨cap, hv⟩ := h.is
  have hS : isS v := by rw [hv]; trivial
  have hL : slL v = xs.length := by rw [hv]; rfl
  obtain ⟨capb, hvb⟩ := hb.is
  have hSb : isS vb := by rw [hvb]; trivial
  have hLb : slL vb = l.length := by rw [hvb]; rfl
  simp only [fc9, s9]
  simp
  refine call_r _ known_c (by simp) ?_
  rintro r w0 ⟨rfl, M0⟩
  refine ⟨by simp, ?_⟩
  simp
  refine ite_r (t := false) (by simp) (fun h => by cases h) (fun _ => ?_)
  simp [hS, hL, hSb, hLb]
  by_cases hbig : 300 < l.length ∨ 60 < xs.length
  · refine ite_r (t := true) (by simp; omega) (fun _ => ?_) (fun h => by cases h)
    simp
    exact M0
  refine ite_r (t := false) (by simp; omega) (fun h => by cases h) (fun _ => ?_)
  simp
  have hb0 := hb.mod M0 (fun _ _ h => h)
  refine call_r _ (new_c hb0 hbf (by omega)) (by simp) ?_
  rintro r w1 ⟨a, F, rfl, R1, M1, hF⟩
  have O1 : Own w w1 F := .new M0 M1 hF
  have hb1 := hb.mod O1.mod (fun _ _ h => h)
  refine ⟨by simp, ?_⟩
  refine call_r _ (ynew_c hb1 (fun k hk => by have := O1.mod.size; omega) hbf (by omega)) (by simp) ?_
  rintro r w2 ⟨b, rfl, hbn, Y2, M2⟩
  have T2 : RY w w2 a b F vb l 0 0 := ⟨R1.mod M2 (fun _ _ h => h), Y2, O1.at (O1.mod.tr M2), fun hk => by have := R1.lt b hk; omega⟩
  refine ⟨by simp, ?_⟩
  simp
  refine ite_r (t := false) (by simp) (fun h => by cases h) (fun _ => ?_)
  simp
  refine loop_w (fun m env' w' => ∃ i : Nat, i ≤ xs.length ∧ m = xs.length - i ∧ env' 1 = v ∧ env' 5 = .pointer (some ⟨a, 0, none⟩) ∧ env' 6 = .pointer (some ⟨b, 0, none⟩) ∧ env' 7 = .int .i64 i ∧ ∃ p e, RY w w' a b F vb l p e) xs.length
    (fun env' w' => Mod none' w w') ?_ ?_ ?_
  · exact ⟨0, by omega, by omega, by simp, by simp, by simp, by simp, 0, 0, T2⟩
  · rintro m env' w' ⟨i, hi, hm, e1, e5, e6, e7, p, e, hT⟩
    simp [e1, e7, hS, hL]
    by_cases hlt : i < xs.length
    · refine ite_r (t := true) (by simp; omega) (fun _ => ?_) (fun h => by cases h)
      simp
      have hx := List.getElem?_eq_getElem hlt
      generalize xs[i] = x at hx
      have hfx := hf x (List.mem_of_getElem? hx)
      have h' := h.mod hT.own.mod (fun _ _ h => h)
      have hg := flat_get Act.cells 3 (fun _ => rfl) xs i
      have g0 := hg 0 (by omega)
      have g1 := hg 1 (by omega)
      have g2 := hg 2 (by omega)
      rw [hx] at g0 g1 g2
      have c0 : w'.cell? ((slB v).add (i * 3)) = some (.int .i64 x.what) := h'.cell _ _ g0
      have c1 : w'.cell? ((slB v).add (i * 3 + 1)) = some (.int .u64 x.v) := h'.cell _ _ g1
      have c2 : w'.cell? ((slB v).add (i * 3 + 2)) = some (.int .i64 x.n) := h'.cell _ _ g2
      have hp := (h'.ptr (by have := (List.getElem?_eq_some_iff.1 g0).1; omega)).1
      have hok : ∀ j, j < 3 → (w'.cell? ((slB v).add (i * 3 + j))).isSome = true := by
        intro j hj
        obtain rfl | rfl | rfl : j = 0 ∨ j = 1 ∨ j = 2 := by omega
        · rw [Nat.add_zero, c0]; rfl
        · rw [c1]; rfl
        · rw [c2]; rfl
      refine blk_cut (fun env2 w2 => env2 1 = v ∧ env2 5 = .pointer (some ⟨a, 0, none⟩) ∧ env2 6 = .pointer (some ⟨b, 0, none⟩) ∧ env2 7 = .int .i64 i ∧ ∃ p e, RY w w2 a b F vb l p e) ?_ ?_
      · simp [e1, e7, hS, hp, hL, add_add, c0, c1, c2, cellsFrom]
        refine ⟨by omega, hok, ?_⟩
        refine alloc_r (i := _) (z := _) rfl rfl ?_
        intro t w2 ht ht2 hm2 _
        refine ⟨by simp, ?_⟩
        simp
        refine st_all (b := t) (v := .agg #[.int .i64 x.what, .int .u64 x.v, .int .i64 x.n]) (by simp) (by simp) ht2 rfl rfl (by simp [Value.cells]) ?_
        intro w3 ht3 hm3 _
        have hfar := hT.own.mod.size
        have tF : ∀ k, F k → ¬ k = t := fun k hk e => by have := hT.rr.lt k hk; omega
        have tb : ¬ b = t := fun e => by have := hT.yr.lt; omega
        have hm : Mod (fun k => k = t) w' w3 := (hm2.mono (fun _ _ h => h.elim)).tr hm3
        have T3 : RY w w3 a b F vb l p e := hT.other hm (fun k hk => by omega) tF tb
        have T3' : RY w w3.drew a b F vb l p e := hT.other hm.drew (fun k hk => by omega) tF tb
        have d0 := cell_blk ht3 0
        have d1 := cell_blk ht3 1
        have d2 := cell_blk ht3 2
        simp [Value.cells] at d0 d1 d2
        refine ⟨by simp, ?_⟩
        simp [d0, d1, d2]
        have ht3' : w3.drew.heap[t]? = some (.cells (Value.agg #[.int .i64 x.what, .int .u64 x.v, .int .i64 x.n]).cells 49 (0, 0)) := ht3
        have keep : ∀ w4, Mod (fun k => k = a) w3.drew w4 → ∀ o, w4.cell? ⟨t, o, none⟩ = w3.cell? ⟨t, o, none⟩ := fun w4 hm4 o => by
          rw [cell_blk (hm4.heap (b := t) ht3' (fun hk => tF a hT.rr.me hk.symm)) o, cell_blk ht3 o]
        refine blk_cut (fun env2 w2 => env2 1 = v ∧ env2 5 = .pointer (some ⟨a, 0, none⟩) ∧ env2 6 = .pointer (some ⟨b, 0, none⟩) ∧ env2 7 = .int .i64 i ∧ env2 9 = .bool true ∧ ∃ p e, RY w w2 a b F vb l p e) ?_ ?_
        · simp
          by_cases hw0 : x.what = 0
          · refine ite_r (t := true) (by simp [hw0]) (fun _ => ?_) (fun h => by cases h)
            simp [d0, d1, d2]
            refine call_r _ (get_c T3'.rr x.n) (by simp [e5]) ?_
            rintro r w4 ⟨rfl, A4⟩
            have hk := keep w4 A4.2
            refine ⟨by simp [promOk, SameCells, hk], ?_⟩
            refine call_r _ (yget_c (T3'.mid A4) x.n) (by simp [e6]) ?_
            rintro r w5 ⟨rfl, A5⟩
            refine ⟨by simp, ?_⟩
            simp
            exact ⟨e1, e5, e6, e7, _, _, T3'.step A4 A5⟩
          · refine ite_r (t := false) (by simp [hw0]) (fun h => by cases h) (fun _ => ?_)
            simp
            by_cases hw1 : x.what = 1
            · refine ite_r (t := true) (by simp [hw1]) (fun _ => ?_) (fun h => by cases h)
              simp [d0, d1, d2]
              refine call_r _ (runary_c T3'.rr x.n) (by simp [e5]) ?_
              rintro r w4 ⟨rfl, A4⟩
              have hk := keep w4 A4.2
              refine ⟨by simp [promOk, SameCells, hk], ?_⟩
              refine call_r _ (yunary_c (T3'.mid A4) x.n) (by simp [e6]) ?_
              rintro r w5 ⟨rfl, A5⟩
              refine ⟨by simp, ?_⟩
              simp
              exact ⟨e1, e5, e6, e7, _, _, T3'.step A4 A5⟩
            · refine ite_r (t := false) (by simp [hw1]) (fun h => by cases h) (fun _ => ?_)
              simp
              by_cases hw2 : x.what = 2
              · refine ite_r (t := true) (by simp [hw2]) (fun _ => ?_) (fun h => by cases h)
                refine call_r _ (ralign_c T3.rr) (by simp [e5]) ?_
                rintro r w4 ⟨rfl, A4⟩
                refine ⟨by simp, ?_⟩
                refine call_r _ (yalign_c (T3.mid A4)) (by simp [e6]) ?_
                rintro r w5 ⟨rfl, A5⟩
                refine ⟨by simp, ?_⟩
                simp
                exact ⟨e1, e5, e6, e7, _, _, T3.step A4 A5⟩
              · refine ite_r (t := false) (by simp [hw2]) (fun h => by cases h) (fun _ => ?_)
                simp [d0, d1, d2]
                refine call_r _ (signed_c T3'.rr x.n hfx.2.1 hfx.2.2) (by simp [e5]) ?_
                rintro r w4 ⟨rfl, A4⟩
                have hk := keep w4 A4.2
                refine ⟨by simp [promOk, SameCells, hk], ?_⟩
                refine call_r _ (ysigned_c (T3'.mid A4) x.n hfx.2.1 hfx.2.2) (by simp [e6]) ?_
                rintro r w5 ⟨rfl, A5⟩
                refine ⟨by simp, ?_⟩
                simp
                exact ⟨e1, e5, e6, e7, _, _, T3'.step A4 A5⟩
        · rintro env2 w2 ⟨q1, q5, q6, q7, q9, p, e, T⟩
          have T0 := T.other (Mod.refl none' w2).drew (fun _ h => h.elim) (fun _ _ h => h) (fun h => h)
          obtain ⟨k0, k1, k2, _, _⟩ := T0.yr.sl
          have k1' : w2.cell? ⟨b, 1, none⟩ = some (.int .i64 p) := k1
          have k2' : w2.cell? ⟨b, 2, none⟩ = some (.int .i64 e) := k2
          simp [q9, q6, k1']
          refine ifg_r (t := false) (by simp) (fun _ => ?_) (fun h => (h rfl).elim)
          refine call_r _ (at_c T0.rr) (by simp [q5]) ?_
          rintro r _ ⟨rfl, rfl⟩
          refine ⟨by simp [promOk, SameCells, q6], ?_⟩
          simp
          refine ifg_r (t := false) (by simp) (fun _ => ?_) (fun h => (h rfl).elim)
          refine call_r _ (left_c T0.rr) (by simp [q5]) ?_
          rintro r w3 ⟨rfl, m3⟩
          have T1 := T0.other m3 (fun _ h => h.elim) (fun _ _ h => h) (fun h => h)
          refine ⟨by simp, ?_⟩
          simp
          refine ifg_r (t := false) (by simp) (fun _ => ?_) (fun h => (h rfl).elim)
          refine call_r _ (yleft_c T1.yr) (by simp [q6]) ?_
          rintro r w4 ⟨rfl, m4⟩
          have T2 := T1.other m4 (fun _ h => h.elim) (fun _ _ h => h) (fun h => h)
          obtain ⟨n0, n1, n2, _, _⟩ := T2.yr.sl
          refine ⟨by simp, ?_⟩
          simp [q6, n2]
          refine ifg_r (t := false) (by simp) (fun _ => ?_) (fun h => (h rfl).elim)
          refine call_r _ (err_c T2.rr) (by simp [q5]) ?_
          rintro r _ ⟨rfl, rfl⟩
          refine ⟨by simp [promOk, SameCells, q6], ?_⟩
          simp
          refine ite_r (t := false) (by simp) (fun h => by cases h) (fun _ => ?_)
          simp
          exact ⟨q1, q5, q6, q7, p, e, T2⟩
      · rintro env2 w2 ⟨q1, q5, q6, q7, p, e, T⟩
        have hw1 : IntKind.i64.wrap ((i : Int) + 1) = (i : Int) + 1 := wrap_i64 (by omega) (by omega)
        simp [q7, hw1]
        exact ⟨xs.length - (i + 1), by omega, i + 1, by omega, rfl, q1, q5, q6, by omega, p, e, T⟩
    · obtain rfl : i = xs.length := by omega
      refine ite_r (t := false) (by simp) (fun h => by cases h) (fun _ => ?_)
      simp
      exact hT.own.mod
  · rintro env' w' hM
    simp
    exact hM

theorem bytes_of {H : Type} {enc : TypeId × Value → H} {w : World} {a : Option Addr} {len cap : Nat} (h : Sees enc Try.prog w 25 [.slice a len cap]) :
    ∃ l : List Nat, l.length = len ∧ len ≤ maxLen ∧ Rd (fun b => b < w.heap.size) w (.slice a len cap) len (bytesV l) ∧ ∀ x ∈ l, x < 256 := by
  have hc1 : Try.prog.cellsOf 5 = 1 := by kernel_rfl
  obtain ⟨oa, l, c, he, hm, ess, h1, h2, h3⟩ := h.slice (e := 5) (by kernel_rfl) (by rw [hc1]; omega)
  simp only [List.cons.injEq, Value.slice.injEq, and_true] at he
  obtain ⟨rfl, rfl, rfl⟩ := he
  obtain ⟨xs, rfl, h4⟩ := pick (f := fun n : Nat => [Value.int .u8 n]) (G := fun n => n < 256) ess (fun es hes => by
    obtain ⟨_, hs⟩ := h2 es hes
    obtain ⟨n0, e0, w0⟩ := hs.int (k := .u8) (by kernel_rfl)
    obtain ⟨m, rfl, hm⟩ := wf_u8 w0
    exact ⟨m, e0, hm⟩)
  refine ⟨xs, by simpa using h1, hm, ?_, h4⟩
  have : ∀ xs : List Nat, (xs.map fun n : Nat => [Value.int .u8 n]).flatten = bytesV xs := by
    intro xs
    unfold bytesV
    induction xs with
    | nil => rfl
    | cons x r ih => simp [ih]
  rw [this] at h3
  exact h3

end Go.Proofs.Ytcmehcgefgjnhaa.VG
