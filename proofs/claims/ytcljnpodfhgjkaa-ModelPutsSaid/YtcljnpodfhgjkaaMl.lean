/-
  Model: planes put as bits.
-/
import Derived.Test.YtcljnpodfhgjkaaMk
namespace Go.Proofs.Ytcljnpodfhgjkaa.VG
open Go
set_option linter.unusedSimpArgs false
set_option linter.unusedVariables false
set_option maxRecDepth 20000

/-- A thing that grows: what it lies in afterwards is what it lay in, or new. -/
theorem Hp.shutW {w w' : World} {i : It} {F : Nat → Prop} {R : List It} (h : Hp (bare w) w' (i :: .old w F :: R)) :
    Mod F w w' ∧ ∃ F', i.P w' F' ∧ ∀ k, F' k → F k ∨ w.heap.size ≤ k := by
  obtain ⟨Fs, hs⟩ := h.sep
  rcases Fs with _ | ⟨F1, _ | ⟨F2, Gs⟩⟩
  · exact hs.elim
  · exact hs.2.2.2.elim
  obtain ⟨h1, _, h3, ⟨e2, h5, h6⟩, _, h8, h9⟩ := hs
  subst e2
  refine ⟨⟨h.mod.os, h.mod.tape, h.mod.output, h5, fun k hk hn => h6 k hk hn⟩, F1, h1, fun k hk => ?_⟩
  rcases Nat.lt_or_ge k w.heap.size with hlt | hge
  · by_cases hF : F k
    · exact .inl hF
    · exact absurd ⟨hlt, hF⟩ (h3 _ (List.mem_cons_self ..) k hk)
  · exact .inr hge
def errP (f : Nat → Int) (l : List Int) (W i : Nat) : Int :=
  if lookC l W i (f 0) < 0 then foldI (-(foldI (gi l i - lookG f l W i) (f 0))) (f 0) else foldI (gi l i - lookG f l W i) (f 0)
def stP (l : List Int) (W : Nat) (d : Int) : Nat → Nat → Int
  | 0 => newF d
  | i + 1 => lrn (stP l W d i) (farI (lookC l W i (stP l W d i 0))) (errP (stP l W d i) l W i)
def bitP (l : List Int) (W : Nat) (d : Int) : Nat → List Bool
  | 0 => []
  | i + 1 => bitP l W d i ++ riceBs (kOf (stP l W d i) (farI (lookC l W i (stP l W d i 0)))) [errP (stP l W d i) l W i]
theorem stP_wf (l : List Int) (W : Nat) {d : Int} (hd : dep d = true) : ∀ i, Wf (stP l W d i) ∧ stP l W d i 0 = d
  | 0 => ⟨newF_wf hd, rfl⟩
  | i + 1 => by
    obtain ⟨h1, h2⟩ := stP_wf l W hd i
    exact ⟨lrn_wf h1 _ _, by rw [stP, lrn_zero, h2]⟩
theorem gue_bd {f : Nat → Int} (hf : Wf f) (c g : Int) (T : Bool) : 0 ≤ gueI f c g T ∧ gueI f c g T ≤ 65535 := by
  have hp := p2_bd (dep_iff.1 hf.1).2
  unfold gueI mnI mxI
  (repeat' split) <;> omega
theorem err_bd {f : Nat → Int} (hf : Wf f) (l : List Int) (W i : Nat) : -65536 ≤ errP f l W i ∧ errP f l W i ≤ 65536 := by
  unfold errP
  split <;> exact fold_bd _ hf.1
theorem bitP_le (l : List Int) (W : Nat) {d : Int} (hd : dep d = true) : ∀ i, (bitP l W d i).length ≤ 65 * i
  | 0 => by simp [bitP]
  | i + 1 => by
    have h1 := bitP_le l W hd i
    have h2 := riceBs_le (K := kOf (stP l W d i) (farI (lookC l W i (stP l W d i 0)))) (by have := kOf_le (stP_wf l W hd i).1 (farI (lookC l W i (stP l W d i 0))); omega) [errP (stP l W d i) l W i]
    simp only [bitP, List.length_append, List.length_singleton] at *
    omega

def putS (l : List Int) (wd h d : Int) : Int := if planeB l wd h d = true then 0 else 1
def putBits (l : List Int) (wd h d : Int) : List Bool := if planeB l wd h d = true then bitP l wd.toNat d l.length else []
set_option maxHeartbeats 4000000 in
theorem mput_c {G F : Nat → Prop} {w : World} {b : Nat} {bs : List Bool} {v : Value} {l : List Int} (wd h d : Int) (hW : Wr w F b bs) (hr : Rd G w v l.length (intsV l)) (hdj : ∀ k, F k → ¬ G k) (hl : l.length ≤ 1000000) (hlen : bs.length ≤ 1000000) :
    Calls Try.prog 25 [.pointer (some ⟨b, 0, none⟩), v, .int .i64 wd, .int .i64 h, .int .i64 d].toArray w (Ret fun r w' => r = .int .i64 (putS l wd h d) ∧ WrAfter w F b (bs ++ putBits l wd h d) w') := by
  refine F_sound c25 (by simp [fc25]) ?_
  obtain ⟨hS, hL⟩ := hr.sl
  simp [fc25, s25]
  refine callp (plane26_ok wd h d hr hl) (by simp) ?_
  unfold putS putBits
  cases hp : planeB l wd h d
  · simp
    refine ite_r (t := true) (by simp) (fun _ => ?_) (fun h => by cases h)
    simp
    exact WrAfter.refl hW
  obtain ⟨W, H', rfl, rfl, hWb, hHb, hd, hln, hall⟩ := nn_dims hp
  have hd' := dep_iff.1 hd
  have hpp := p2_bd hd'.2
  simp
  refine ite_r (t := false) (by simp) (fun h => by cases h) (fun _ => ?_)
  have H := Hp.openG (i := .wr b bs) hW
  refine call_h (mnew_c d) (by simp) ?_
  rintro r w1 hR
  obtain ⟨t, rfl, HR⟩ := hR.ok hd
  replace H := H.join HR
  replace H : Hp (bare w) w1 [.wr b bs, .old w F, .blk t (cellsF (newF d) 1461)] := H
  simp
  refine ite_r (t := false) (by simp) (fun h => by cases h) (fun _ => ?_)
  simp [hS, hL]
  refine for_r l.length (fun i env' w' => env' 0 = .pointer (some ⟨b, 0, none⟩) ∧ env' 1 = v ∧ env' 2 = .int .i64 W ∧ env' 4 = .int .i64 d ∧ env' 11 = .pointer (some ⟨t, 0, none⟩) ∧ env' 34 = v ∧ env' 35 = .int .i64 l.length ∧ env' 36 = .int .i64 i ∧
    Hp (bare w) w' [.wr b (bs ++ bitP l W d i), .old w F, .blk t (cellsF (stP l W d i) 1461)]) ?_ ?_ ?_
  · simp [hL, bitP, stP]
    exact H
  · rintro i env w2 hi ⟨e0, e1, e2, e4, e11, e34, e35, e36, H⟩
    have wi : IntKind.i64.wrap ((i : Int) + 1) = ((i + 1 : Nat) : Int) := by rw [wI (by omega) (by omega)]; omega
    simp [e35, e36]
    refine ite_r (t := true) (by simp; omega) (fun _ => ?_) (fun h => by cases h)
    obtain ⟨M, _⟩ := H.shutW
    have hr2 := hr.mod M (fun k hk hk2 => hdj k hk2 hk)
    have hg := hr2.gi i hi
    have hp1 := hr2.some (by omega)
    simp [wp_blk, e34, e36, hS, hL, hi, hg, hp1]
    obtain ⟨hf, hf0⟩ := stP_wf l W hd i
    refine callm (look_c26 (H.md 2 rfl).1 hf hr2 hWb (i := i) (by omega)) (by simp [e1, e2, e11]) ?_
    intro w3 M3
    replace H := H.same M3
    have hgb := gue_bd hf (farI (lookC l W i (stP l W d i 0))) (guessAt l W (stP l W d i 0) 7 (i % W) (i / W)) (decide (lookC l W i (stP l W d i 0) < 0))
    have hx : 0 ≤ gi l i ∧ gi l i < p2 d := inD_iff.1 (List.all_eq_true.1 hall _ (gi_mem l i hi))
    have heb := err_bd hf l W i
    have hE : errP (stP l W d i) l W i = if lookC l W i (stP l W d i 0) < 0 then foldI (-(foldI (gi l i - lookG (stP l W d i) l W i) (stP l W d i 0))) (stP l W d i 0) else foldI (gi l i - lookG (stP l W d i) l W i) (stP l W d i 0) := rfl
    have hk := kOf_le hf (farI (lookC l W i (stP l W d i 0)))
    have hB : bitP l W d (i + 1) = bitP l W d i ++ riceBs (kOf (stP l W d i) (farI (lookC l W i (stP l W d i 0)))) [errP (stP l W d i) l W i] := rfl
    have hSt : stP l W d (i + 1) = lrn (stP l W d i) (farI (lookC l W i (stP l W d i 0))) (errP (stP l W d i) l W i) := rfl
    have hbl := bitP_le l W hd i
    rw [hB, hSt]
    unfold lookV
    replace hgb : 0 ≤ lookG (stP l W d i) l W i ∧ lookG (stP l W d i) l W i ≤ 65535 := hgb
    rw [hf0] at *
    generalize errP (stP l W d i) l W i = er at *
    generalize lookG (stP l W d i) l W i = g at *
    generalize lookC l W i d = c at *
    generalize stP l W d i = f at *
    generalize gi l i = x at *
    have w1 : IntKind.i64.wrap (x - g) = x - g := wI (by omega) (by omega)
    simp [w1]
    refine callp (fold_c' (x - g) d) (by simp [e4, w1]) ?_
    have hfb := fold_bd (x - g) hd
    have w2' : IntKind.i64.wrap (-(foldI (x - g) d)) = -(foldI (x - g) d) := wI (by omega) (by omega)
    simp
    refine ite_cut (fun env' w' => env' 0 = .pointer (some ⟨b, 0, none⟩) ∧ env' 1 = v ∧ env' 2 = .int .i64 W ∧ env' 4 = .int .i64 d ∧ env' 11 = .pointer (some ⟨t, 0, none⟩) ∧ env' 34 = v ∧ env' 35 = .int .i64 l.length ∧ env' 36 = .int .i64 i ∧ env' 15 = .int .i64 (farI c) ∧ env' 18 = .int .i64 er ∧ w' = w3) (t := decide (c < 0)) (by simp) ?_ ?_ ?_
    · intro hc
      have hc : c < 0 := by simpa using hc
      rw [if_pos hc] at hE
      simp [w2']
      refine callp (fold_c' (-(foldI (x - g) d)) d) (by simp [e4, w2']) ?_
      simp [e0, e1, e2, e4, e11, e34, e35, e36, hE]
    · intro hc
      have hc : ¬ c < 0 := by simpa using hc
      rw [if_neg hc] at hE
      simp [e0, e1, e2, e4, e11, e34, e35, e36, hE]
    rintro env _ ⟨e0, e1, e2, e4, e11, e34, e35, e36, e15, e18, rfl⟩
    refine callm (k_c (H.md 2 rfl).1 hf (farI c)) (by simp (disch := omega) [wI, wU, tmod_nn, tdiv_nn, env0_0, env0_1, env0_2, env0_3, env0_4, env0_5, -env0_apply, e11, e15]) ?_
    intro w' M'
    replace H := H.same M'
    refine bs_h slTI (([er] : List Int).map fun n => .int .i64 n) H rfl (by decide) (by simp [e18]) (by simp [Value.cells]) ?_
    intro cv w5 H M5
    refine ⟨.inl rfl, ?_⟩
    rw [flat_ints] at H
    obtain ⟨F1, hW1, _, upW, rdW⟩ := H.wr 0 rfl
    obtain ⟨G1, hr1, hd1⟩ := rdW 3 _ _ _ _ _ (by decide) rfl
    refine call_h (rput_yes hW1 (l := [er]) hr1 hd1 (by simp) (by simp; omega) (kOf f (farI c)) (by omega) (by simp [allW, wideB]; omega)) (by simp [e0]) ?_
    rintro r w6 ⟨rfl, A⟩
    replace H := (upW _ _ A).drop 3
    replace H : Hp (bare w) w6 [.wr b (bs ++ bitP l W d i ++ riceBs (kOf f (farI c)) [er]), .old w F, .blk t (cellsF f 1461)] := H
    simp
    refine ite_r (t := false) (by simp) (fun h => by cases h) (fun _ => ?_)
    obtain ⟨hM, _, _, up⟩ := H.md 2 rfl
    refine call_h (learn_c hM hf (farI c) er) (by simp [e11, e15, e18]) ?_
    rintro r w7 HA
    replace H := up _ _ HA
    rw [List.append_assoc] at H
    simp [e0, e1, e2, e4, e11, e34, e35, e36, wi, -Int.natCast_add]
    exact ⟨by omega, H⟩
  · rintro env w2 ⟨e0, e1, e2, e4, e11, e34, e35, e36, H⟩
    simp [e35, e36]
    refine ite_r (t := false) (by simp) (fun h => by cases h) (fun _ => ?_)
    simp
    obtain ⟨M, F', hW', hF'⟩ := H.shutW
    exact ⟨F', hW', M, hF'⟩

set_option maxHeartbeats 4000000 in
theorem mput2_c {G F : Nat → Prop} {w : World} {b : Nat} {bs : List Bool} {v : Value} {l : List Int} (wd h d : Int) (hW : Xr w F b bs) (hr : Rd G w v l.length (intsV l)) (hdj : ∀ k, F k → ¬ G k) (hl : l.length ≤ 1000000) (hlen : bs.length ≤ 1000000) :
    Calls Try.prog 56 [.pointer (some ⟨b, 0, none⟩), v, .int .i64 wd, .int .i64 h, .int .i64 d].toArray w (Ret fun r w' => r = .int .i64 (putS l wd h d) ∧ XrAfter w F b (bs ++ putBits l wd h d) w') := by
  refine F_sound c56 (by simp [fc56]) ?_
  obtain ⟨hS, hL⟩ := hr.sl
  simp [fc56, s56]
  refine callp (plane2_ok wd h d hr hl) (by simp) ?_
  unfold putS putBits
  cases hp : planeB l wd h d
  · simp
    refine ite_r (t := true) (by simp) (fun _ => ?_) (fun h => by cases h)
    simp
    exact XrAfter.refl hW
  obtain ⟨W, H', rfl, rfl, hWb, hHb, hd, hln, hall⟩ := nn_dims hp
  have hd' := dep_iff.1 hd
  have hpp := p2_bd hd'.2
  simp
  refine ite_r (t := false) (by simp) (fun h => by cases h) (fun _ => ?_)
  have H := Hp.openG (i := .xr b bs) hW
  refine call_h (mnew2_c d) (by simp) ?_
  rintro r w1 hR
  obtain ⟨t, rfl, HR⟩ := hR.ok hd
  replace H := H.join HR
  replace H : Hp (bare w) w1 [.xr b bs, .old w F, .blk t (cellsF (newF d) 1461)] := H
  simp
  refine for_r l.length (fun i env' w' => env' 0 = .pointer (some ⟨b, 0, none⟩) ∧ env' 1 = v ∧ env' 2 = .int .i64 W ∧ env' 4 = .int .i64 d ∧ env' 11 = .pointer (some ⟨t, 0, none⟩) ∧ env' 13 = .int .i64 i ∧
    Hp (bare w) w' [.xr b (bs ++ bitP l W d i), .old w F, .blk t (cellsF (stP l W d i) 1461)]) ?_ ?_ ?_
  · simp [bitP, stP]
    exact H
  · rintro i env w2 hi ⟨e0, e1, e2, e4, e11, e13, H⟩
    have wi : IntKind.i64.wrap ((i : Int) + 1) = ((i + 1 : Nat) : Int) := by rw [wI (by omega) (by omega)]; omega
    simp [e1, e13, hS, hL]
    refine ite_r (t := true) (by simp; omega) (fun _ => ?_) (fun h => by cases h)
    obtain ⟨M, _⟩ := H.shutW
    have hr2 := hr.mod M (fun k hk hk2 => hdj k hk2 hk)
    have hg := hr2.gi i hi
    have hp1 := hr2.some (by omega)
    simp [wp_blk]
    obtain ⟨hf, hf0⟩ := stP_wf l W hd i
    refine callm (seen_c (H.md 2 rfl).1 hf hr2 hWb (i := i) (by omega)) (by simp [e1, e2, e11, e13]) ?_
    intro w3 M3
    replace H := H.same M3
    have hg := (hr2.at M3).gi i hi
    have hp1 := hr2.some (by omega)
    have hgb := gue_bd hf (farI (lookC l W i (stP l W d i 0))) (guessAt l W (stP l W d i 0) 7 (i % W) (i / W)) (decide (lookC l W i (stP l W d i 0) < 0))
    have hx : 0 ≤ gi l i ∧ gi l i < p2 d := inD_iff.1 (List.all_eq_true.1 hall _ (gi_mem l i hi))
    have heb := err_bd hf l W i
    have hE : errP (stP l W d i) l W i = if lookC l W i (stP l W d i 0) < 0 then foldI (-(foldI (gi l i - lookG (stP l W d i) l W i) (stP l W d i 0))) (stP l W d i 0) else foldI (gi l i - lookG (stP l W d i) l W i) (stP l W d i 0) := rfl
    have hk := kOf_le hf (farI (lookC l W i (stP l W d i 0)))
    have hB : bitP l W d (i + 1) = bitP l W d i ++ riceBs (kOf (stP l W d i) (farI (lookC l W i (stP l W d i 0)))) [errP (stP l W d i) l W i] := rfl
    have hSt : stP l W d (i + 1) = lrn (stP l W d i) (farI (lookC l W i (stP l W d i 0))) (errP (stP l W d i) l W i) := rfl
    have hbl := bitP_le l W hd i
    rw [hB, hSt]
    unfold lookV
    replace hgb : 0 ≤ lookG (stP l W d i) l W i ∧ lookG (stP l W d i) l W i ≤ 65535 := hgb
    rw [hf0] at *
    generalize errP (stP l W d i) l W i = er at *
    generalize lookG (stP l W d i) l W i = g at *
    generalize lookC l W i d = c at *
    generalize stP l W d i = f at *
    generalize gi l i = x at *
    have w1 : IntKind.i64.wrap (x - g) = x - g := wI (by omega) (by omega)
    simp [w1, e1, e13, hS, hL, hi, hg, hp1]
    refine callp (fold2_c' (x - g) d) (by simp [e4, w1]) ?_
    have hfb := fold_bd (x - g) hd
    have w2' : IntKind.i64.wrap (-(foldI (x - g) d)) = -(foldI (x - g) d) := wI (by omega) (by omega)
    simp
    refine ite_cut (fun env' w' => env' 0 = .pointer (some ⟨b, 0, none⟩) ∧ env' 1 = v ∧ env' 2 = .int .i64 W ∧ env' 4 = .int .i64 d ∧ env' 11 = .pointer (some ⟨t, 0, none⟩) ∧ env' 13 = .int .i64 i ∧ env' 14 = .int .i64 (farI c) ∧ env' 17 = .int .i64 er ∧ w' = w3) (t := decide (c < 0)) (by simp) ?_ ?_ ?_
    · intro hc
      have hc : c < 0 := by simpa using hc
      rw [if_pos hc] at hE
      simp [w2']
      refine callp (fold2_c' (-(foldI (x - g) d)) d) (by simp [e4, w2']) ?_
      simp [e0, e1, e2, e4, e11, e13, hE]
    · intro hc
      have hc : ¬ c < 0 := by simpa using hc
      rw [if_neg hc] at hE
      simp [e0, e1, e2, e4, e11, e13, hE]
    rintro env _ ⟨e0, e1, e2, e4, e11, e13, e14, e17, rfl⟩
    refine callm (k2_c (H.md 2 rfl).1 hf (farI c)) (by simp (disch := omega) [wI, wU, tmod_nn, tdiv_nn, env0_0, env0_1, env0_2, env0_3, env0_4, env0_5, -env0_apply, e11, e14]) ?_
    intro w' M'
    replace H := H.same M'
    refine bs_h slTI (([er] : List Int).map fun n => .int .i64 n) H rfl (by decide) (by simp [e17]) (by simp [Value.cells]) ?_
    intro cv w5 H M5
    refine ⟨.inl rfl, ?_⟩
    rw [flat_ints] at H
    obtain ⟨F1, hW1, _, upW, rdW⟩ := H.xr 0 rfl
    obtain ⟨G1, hr1, hd1⟩ := rdW 3 _ _ _ _ _ (by decide) rfl
    refine call_h (xrput_yes hW1 (l := [er]) hr1 hd1 (by simp) (by simp; omega) (kOf f (farI c)) (by omega) (by simp [allW, wideB]; omega)) (by simp [e0]) ?_
    rintro r w6 ⟨rfl, A⟩
    replace H := (upW _ _ A).drop 3
    replace H : Hp (bare w) w6 [.xr b (bs ++ bitP l W d i ++ riceBs (kOf f (farI c)) [er]), .old w F, .blk t (cellsF f 1461)] := H
    simp
    obtain ⟨hM, _, _, up⟩ := H.md 2 rfl
    refine call_h (learn2_c hM hf (farI c) er (by omega)) (by simp [e11, e14, e17]) ?_
    rintro r w7 HA
    replace H := up _ _ HA
    rw [List.append_assoc] at H
    simp [e0, e1, e2, e4, e11, e13, wi, -Int.natCast_add]
    exact ⟨by omega, H⟩
  · rintro env w2 ⟨e0, e1, e2, e4, e11, e13, H⟩
    simp [e1, e13, hS, hL]
    refine ite_r (t := false) (by simp) (fun h => by cases h) (fun _ => ?_)
    simp
    obtain ⟨M, F', hW', hF'⟩ := H.shutW
    exact ⟨F', hW', M, hF'⟩

end Go.Proofs.Ytcljnpodfhgjkaa.VG
