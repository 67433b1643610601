/-
  Bits: the law BitsPlays.
-/
import Derived.Test.YtcmehcgefgjnhaaBi
import Derived.Test.YtcmehcgefgjnhaaVgN
namespace Go.Proofs.Ytcmehcgefgjnhaa.VG
open Go
set_option linter.unusedSimpArgs false
set_option linter.unusedVariables false

/-- Both writers hold the same bits, in blocks of their own. -/
structure Two (W w : World) (a b : Nat) (bs : List Bool) : Prop where
  is : ∃ F G, Wr w F a bs ∧ Xr w G b bs ∧ (∀ k, F k → ¬ G k) ∧ Own W w F ∧ Own W w G
theorem Two.mod' {W w : World} {a b : Nat} {bs : List Bool} (h : Two W w a b bs) : Mod none' W w := by
  obtain ⟨F, G, _, _, _, h1, _⟩ := h.is
  exact h1.mod
/-- What changes blocks that are neither's. -/
theorem Two.other {W w w' : World} {a b : Nat} {bs : List Bool} {S : Nat → Prop} (h : Two W w a b bs) (m : Mod S w w') (hS : ∀ k, S k → W.heap.size ≤ k) (hF : ∀ F G, Wr w F a bs → Xr w G b bs → (∀ k, F k → ¬ S k) ∧ (∀ k, G k → ¬ S k)) : Two W w' a b bs := by
  obtain ⟨F, G, h1, h2, h3, h4, h5⟩ := h.is
  obtain ⟨q1, q2⟩ := hF F G h1 h2
  have hm := h4.mod.far hS m
  exact ⟨F, G, h1.mod m q1, h2.mod m q2, h3, h4.at hm, h5.at hm⟩

/-- One call of each. -/
theorem Two.step {W w w1 w2 : World} {a b : Nat} {bs cs : List Bool} {F G : Nat → Prop} (h1 : Wr w F a bs) (h2 : Xr w G b bs) (h3 : ∀ k, F k → ¬ G k) (h4 : Own W w F) (h5 : Own W w G)
    (c1 : WrAfter w F a cs w1) (c2 : XrAfter w1 G b cs w2) : Two W w2 a b cs := by
  obtain ⟨F1, A1, M1, N1⟩ := c1
  obtain ⟨G1, A2, M2, N2⟩ := c2
  have O1 := h4.step M1 (fun _ h => h) N1
  have P1 := h5.at O1.mod
  have D1 := dis_step h3 N1 h2.lt
  have P2 := P1.step M2 (fun _ h => h) N2
  have D2 := dis_step (fun k hk hk' => D1 k hk' hk) N2 A1.lt
  exact ⟨F1, G1, A1.mod M2 D1, A2, fun k hk hk' => D2 k hk' hk, O1.at P2.mod, P2⟩

theorem padN_lt (n : Nat) : padN n < 8 := by unfold padN; omega

set_option maxHeartbeats 2000000 in
theorem plays_c {w : World} {v : Value} {xs : List Act} (h : Rd (fun k => k < w.heap.size) w v xs.length (xs.map Act.cells).flatten) (hf : ∀ x ∈ xs, x.fits) (hlm : xs.length ≤ maxLen) :
    Calls Try.prog 6 [v].toArray w (Ret fun r w' => r = .bool true ∧ Mod none' w w') := by
  refine F_sound c6 (by simp [fc6]) ?_
  obtain ⟨cap, hv⟩ := h.is
  have hS : isS v := by rw [hv]; trivial
  have hL : slL v = xs.length := by rw [hv]; rfl
  simp only [fc6, s6]
  simp
  refine call_r _ known_c (by simp) ?_
  rintro r w0 ⟨rfl, M0⟩
  refine ⟨by simp, ?_⟩
  simp
  refine ite_r (t := false) (by simp) (fun h => by cases h) (fun _ => ?_)
  simp [hS, hL]
  by_cases hbig : 40 < xs.length
  · refine ite_r (t := true) (by simp; omega) (fun _ => ?_) (fun h => by cases h)
    simp
    exact M0
  refine ite_r (t := false) (by simp; omega) (fun h => by cases h) (fun _ => ?_)
  simp
  refine box_r (.agg #[.slice none 0 0, .int .i64 0]) (by simp) ?_
  intro a w1 ha ha1 hm1 _
  refine ⟨by simp, ?_⟩
  refine box_r (.agg #[.slice none 0 0]) (by simp) ?_
  intro b w2 hb hb1 hm2 _
  have A2 := (newWr ha1).mod hm2 (fun _ _ h => h)
  have B2 := newXr hb1
  have OA1 : Own w w1 (fun k => k = a) := .new M0 hm1 (fun k hk => by omega)
  have OA2 := OA1.step hm2 (fun _ h => h.elim) (fun k hk => .inl hk)
  have OB2 : Own w w2 (fun k => k = b) := .new OA1.mod hm2 (fun k hk => by omega)
  have T2 : Two w w2 a b [] := ⟨_, _, A2, B2, fun k hk e => by have := heap_lt ha1; omega, OA2, OB2⟩
  refine ⟨by simp, ?_⟩
  simp
  refine loop_w (fun m env' w' => ∃ i : Nat, i ≤ xs.length ∧ m = xs.length - i ∧ env' 0 = v ∧ env' 3 = .pointer (some ⟨a, 0, none⟩) ∧ env' 4 = .pointer (some ⟨b, 0, none⟩) ∧ env' 5 = .int .i64 i ∧ ∃ bs, bs.length ≤ 4200 * i ∧ Two w w' a b bs) xs.length
    (fun env' w' => env' 3 = .pointer (some ⟨a, 0, none⟩) ∧ env' 4 = .pointer (some ⟨b, 0, none⟩) ∧ ∃ bs, bs.length ≤ 4200 * 40 ∧ Two w w' a b bs) ?_ ?_ ?_
  · exact ⟨0, by omega, by omega, by simp, by simp, by simp, by simp, [], by simp, T2⟩
  · rintro m env' w' ⟨i, hi, hm, e0, e3, e4, e5, bs, hbl, hT⟩
    simp [e0, e5, hS, hL]
    by_cases hlt : i < xs.length
    · refine ite_r (t := true) (by simp; omega) (fun _ => ?_) (fun h => by cases h)
      simp
      rw [wp_blk]
      have hx := List.getElem?_eq_getElem hlt
      generalize xs[i] = x at hx
      have hfx := hf x (List.mem_of_getElem? hx)
      have h' := h.mod hT.mod' (fun _ _ h => h)
      have hg := flat_get Act.cells 3 (fun _ => rfl) xs i
      have g0 := hg 0 (by omega)
      have g1 := hg 1 (by omega)
      have g2 := hg 2 (by omega)
      rw [hx] at g0 g1 g2
      have c0 : w'.cell? ((slB v).add (i * 3)) = some (.int .i64 x.what) := h'.cell _ _ g0
      have c1 : w'.cell? ((slB v).add (i * 3 + 1)) = some (.int .u64 x.v) := h'.cell _ _ g1
      have c2 : w'.cell? ((slB v).add (i * 3 + 2)) = some (.int .i64 x.n) := h'.cell _ _ g2
      have hp := (h'.ptr (by have := (List.getElem?_eq_some_iff.1 g0).1; omega)).1
      have hok : ∀ j, j < 3 → (w'.cell? ((slB v).add (i * 3 + j))).isSome = true := by
        intro j hj
        obtain rfl | rfl | rfl : j = 0 ∨ j = 1 ∨ j = 2 := by omega
        · rw [Nat.add_zero, c0]; rfl
        · rw [c1]; rfl
        · rw [c2]; rfl
      simp [e0, e5, hS, hp, hL, add_add, c0, c1, c2, cellsFrom]
      refine ⟨by omega, hok, ?_⟩
      refine alloc_r (i := _) (z := _) rfl rfl ?_
      intro t w2 ht ht2 hm2 _
      have T2 := hT.other hm2 (fun _ h => h.elim) (fun _ _ _ _ => ⟨fun _ _ h => h, fun _ _ h => h⟩)
      have htF : ∀ k, k < w'.heap.size → ¬ k = t := fun k hk => by omega
      refine ⟨by simp, ?_⟩
      simp
      refine st_all (b := t) (v := .agg #[.int .i64 x.what, .int .u64 x.v, .int .i64 x.n]) (by simp) (by simp) ht2 rfl rfl (by simp [Value.cells]) ?_
      intro w3 ht3 hm3 _
      have hm : Mod (fun k => k = t) w' w3 := (hm2.mono (fun _ _ h => h.elim)).tr hm3
      have hfar := hT.mod'.size
      have T3 : Two w w3 a b bs := hT.other hm (fun k hk => by omega) (fun F G h1 h2 => ⟨fun k hk e => by have := h1.lt k hk; omega, fun k hk e => by have := h2.lt k hk; omega⟩)
      have d0 := cell_blk ht3 0
      have d1 := cell_blk ht3 1
      have d2 := cell_blk ht3 2
      simp [Value.cells] at d0 d1 d2
      refine ⟨by simp, ?_⟩
      simp [d0, d1, d2]
      refine blk_cut (fun env2 w2 => env2 0 = v ∧ env2 3 = .pointer (some ⟨a, 0, none⟩) ∧ env2 4 = .pointer (some ⟨b, 0, none⟩) ∧ env2 5 = .int .i64 i ∧ ∃ bs, bs.length ≤ 4200 * (i + 1) ∧ Two w w2 a b bs) ?_ ?_
      · obtain ⟨F, G, h1, h2, h3, h4, h5⟩ := hT.is
        have tF : ∀ k, F k → ¬ k = t := fun k hk e => by have := h1.lt k hk; omega
        have tG : ∀ k, G k → ¬ k = t := fun k hk e => by have := h2.lt k hk; omega
        have hmD : Mod (fun k => k = t) w' w3.drew := hm.drew
        have hMD := h4.mod.far (fun k hk => by omega) hmD
        have D1 := h1.mod hmD tF
        have D2 := h2.mod hmD tG
        have D4 := h4.at hMD
        have D5 := h5.at hMD
        have keep : ∀ w4, Mod F w3.drew w4 → ∀ o, w4.cell? ⟨t, o, none⟩ = w3.cell? ⟨t, o, none⟩ := fun w4 hm4 o => by
          rw [cell_blk (hm4.heap (b := t) (by simpa using ht3) (fun hk => tF t hk rfl)) o, cell_blk ht3 o]
        simp
        by_cases hw0 : x.what = 0
        · refine ite_r (t := true) (by simp [hw0]) (fun _ => ?_) (fun h => by cases h)
          simp [d0, d1, d2]
          by_cases hgood : 0 ≤ x.n ∧ x.n ≤ 64 ∧ x.v < 2 ^ x.n.toNat
          · obtain ⟨N, hN⟩ : ∃ N : Nat, x.n = N := ⟨x.n.toNat, by omega⟩
            rw [hN, Int.toNat_natCast] at hgood
            refine call_r _ (put_yes D1 x.v N (by omega) hgood.2.2 (by omega)) (by simp [e3, hN]) ?_
            rintro r w4 ⟨rfl, F4, A4, M4, N4⟩
            have hk := keep w4 M4
            have X4 := D2.mod M4 (fun k hk hk' => h3 k hk' hk)
            refine ⟨?_, ?_⟩
            · simp [promOk, SameCells, hk]
            refine call_r _ (xput_yes X4 x.v N (by omega) hgood.2.2 (by omega)) (by simp [e4, hN]) ?_
            rintro r w5 ⟨rfl, hX⟩
            refine ⟨by simp, ?_⟩
            simp
            refine ite_r (t := false) (by simp) (fun h => by cases h) (fun _ => ?_)
            simp
            exact ⟨e0, e3, e4, e5, _, by simp [toB_length]; omega, Two.step D1 D2 h3 D4 D5 ⟨F4, A4, M4, N4⟩ hX⟩
          · refine call_r _ (put_no D1 x.v x.n hfx.1 hgood) (by simp [e3]) ?_
            rintro r _ ⟨rfl, rfl⟩
            refine ⟨by simp [promOk, SameCells], ?_⟩
            refine call_r _ (xput_no (b := b) x.v x.n hfx.1 hfx.2.2 hgood) (by simp [e4]) ?_
            rintro r _ ⟨rfl, rfl⟩
            refine ⟨by simp, ?_⟩
            simp
            refine ite_r (t := false) (by simp) (fun h => by cases h) (fun _ => ?_)
            simp
            exact ⟨e0, e3, e4, e5, bs, by omega, F, G, D1, D2, h3, D4, D5⟩
        · refine ite_r (t := false) (by simp [hw0]) (fun h => by cases h) (fun _ => ?_)
          simp
          by_cases hw1 : x.what = 1
          · refine ite_r (t := true) (by simp [hw1]) (fun _ => ?_) (fun h => by cases h)
            simp [d0, d1, d2]
            by_cases hgood : 0 ≤ x.n ∧ x.n ≤ 4096
            · obtain ⟨N, hN⟩ : ∃ N : Nat, x.n = N := ⟨x.n.toNat, by omega⟩
              refine call_r _ (unary_yes D1 N (by omega) (by omega)) (by simp [e3, hN]) ?_
              rintro r w4 ⟨rfl, F4, A4, M4, N4⟩
              have hk := keep w4 M4
              have X4 := D2.mod M4 (fun k hk hk' => h3 k hk' hk)
              refine ⟨?_, ?_⟩
              · simp [promOk, SameCells, hk]
              refine call_r _ (xunary_yes X4 N (by omega) (by omega)) (by simp [e4, hN]) ?_
              rintro r w5 ⟨rfl, hX⟩
              refine ⟨by simp, ?_⟩
              simp
              refine ite_r (t := false) (by simp) (fun h => by cases h) (fun _ => ?_)
              simp
              exact ⟨e0, e3, e4, e5, _, by simp; omega, Two.step D1 D2 h3 D4 D5 ⟨F4, A4, M4, N4⟩ hX⟩
            · refine call_r _ (unary_no (b := a) x.n (by omega)) (by simp [e3]) ?_
              rintro r _ ⟨rfl, rfl⟩
              refine ⟨by simp [promOk, SameCells], ?_⟩
              refine call_r _ (xunary_no (b := b) x.n (by omega)) (by simp [e4]) ?_
              rintro r _ ⟨rfl, rfl⟩
              refine ⟨by simp, ?_⟩
              simp
              refine ite_r (t := false) (by simp) (fun h => by cases h) (fun _ => ?_)
              simp
              exact ⟨e0, e3, e4, e5, bs, by omega, F, G, D1, D2, h3, D4, D5⟩
          · refine ite_r (t := false) (by simp [hw1]) (fun h => by cases h) (fun _ => ?_)
            have C1 := h1.mod hm tF
            have C2 := h2.mod hm tG
            have CM := h4.mod.far (fun k hk => by omega) hm
            have C4 := h4.at CM
            have C5 := h5.at CM
            have hpn := padN_lt bs.length
            refine call_r _ (align_c C1 (by omega)) (by simp [e3]) ?_
            rintro r w4 ⟨rfl, F4, A4, M4, N4⟩
            have X4 := C2.mod M4 (fun k hk hk' => h3 k hk' hk)
            refine ⟨by simp, ?_⟩
            refine call_r _ (xalign_c X4 (by omega)) (by simp [e4]) ?_
            rintro r w5 ⟨rfl, hX⟩
            refine ⟨by simp, ?_⟩
            simp
            exact ⟨e0, e3, e4, e5, _, by simp; omega, Two.step C1 C2 h3 C4 C5 ⟨F4, A4, M4, N4⟩ hX⟩
      · rintro env2 w2 ⟨q0, q3, q4, q5, cs, hcl, T⟩
        obtain ⟨F, G, h1, h2, h3, h4, h5⟩ := T.is
        refine call_r _ (len_c h1) (by simp [q3]) ?_
        rintro r _ ⟨rfl, rfl⟩
        refine ⟨by simp, ?_⟩
        refine call_r _ (xlen_c h2) (by simp [q4]) ?_
        rintro r _ ⟨rfl, rfl⟩
        refine ⟨by simp, ?_⟩
        simp
        refine ite_r (t := false) (by simp) (fun h => by cases h) (fun _ => ?_)
        have hw1 : IntKind.i64.wrap ((i : Int) + 1) = (i : Int) + 1 := wrap_i64 (by omega) (by omega)
        simp [q5, hw1]
        exact ⟨xs.length - (i + 1), by omega, i + 1, by omega, rfl, q0, q3, q4, by omega, cs, hcl, T⟩
    · obtain rfl : i = xs.length := by omega
      refine ite_r (t := false) (by simp) (fun h => by cases h) (fun _ => ?_)
      simp
      exact ⟨e3, e4, bs, by omega, hT⟩
  · rintro env' w' ⟨e3, e4, bs, hbl, hT⟩
    obtain ⟨F, G, h1, h2, h3, h4, h5⟩ := hT.is
    refine call_r _ (bytes_c h1 (by omega)) (by simp [e3]) ?_
    rintro va w3 hva
    have h2' := h2.mod hva.2 (fun _ _ h => h)
    have O3 := h4.step hva.2 (fun _ h => h.elim) (fun k hk => .inl hk)
    refine ⟨by simp, ?_⟩
    refine call_r _ (xbytes_c h2' (by omega)) (by simp [e4]) ?_
    rintro vb w4 hvb
    have ha4 := hva.rd.mod hvb.2 (fun _ _ h => h)
    refine ⟨by simp, ?_⟩
    refine call_r _ (same_c ha4 hvb.rd (packB_fits _) (packB_fits _)) (by simp) ?_
    rintro r _ ⟨rfl, rfl⟩
    refine ⟨by simp, ?_⟩
    simp
    exact O3.mod.tr hvb.2

end Go.Proofs.Ytcmehcgefgjnhaa.VG
