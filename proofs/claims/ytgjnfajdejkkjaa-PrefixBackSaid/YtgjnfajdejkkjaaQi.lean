/-
  The words of a code.
-/
import Derived.Test.YtgjnfajdejkkjaaQh
import Derived.Test.YtgjnfajdejkkjaaWa
namespace Go.Proofs.Ytgjnfajdejkkjaa.VG
open Go
set_option linter.unusedSimpArgs false
set_option linter.unusedVariables false
set_option maxRecDepth 20000

def wdsV (l : List Int) : List Value := l.map fun n => Value.int .u64 n
theorem wdsV_length (l : List Int) : (wdsV l).length = l.length := by simp [wdsV]
theorem wdsV_set (l : List Int) (i : Nat) (v : Int) : (wdsV l).set i (.int .u64 v) = wdsV (l.set i v) := by simp [wdsV, List.map_set]
theorem wdsV_zeros (n : Nat) : (madeCells (Value.int .u64 0).cells (n * 1)).toList = wdsV (List.replicate n 0) := by
  apply List.ext_getElem
  · simp [size_madeCells, wdsV]
  · intro i h1 h2
    simp [madeCells, wdsV, Value.cells, Nat.mod_one]
theorem zeroU {z : Value} (h : ∃ i, Try.prog.info? 33 = some i ∧ i.zero = some z) : z = .int .u64 0 := by
  obtain ⟨i, hi, hz⟩ := h
  obtain ⟨j, h3, h4⟩ : ∃ j, Try.prog.info? 33 = some j ∧ j.zero = some (.int .u64 0) := ⟨_, rfl, rfl⟩
  rw [h3] at hi
  cases hi
  rw [h4] at hz
  cases hz
  rfl
theorem slTU : SlT Try.prog 29 33 1 8 := ⟨by kernel_rfl, ⟨_, _, rfl, rfl, rfl, rfl, rfl⟩, by omega⟩
theorem rdN {G : Nat → Prop} {w : World} {v : Value} {n : Nat} {r : List Nat} (h : Rd G w v n (natsV r)) (i : Nat) (hi : i < r.length) : w.cell? ((slB v).add i) = some (.int .i64 (gnn r i)) := by
  refine h.cell i _ ?_
  unfold natsV intsV
  rw [List.getElem?_map, List.getElem?_map, gnn_lt hi]; rfl
theorem rdW {G : Nat → Prop} {w : World} {v : Value} {n : Nat} {r : List Int} (h : Rd G w v n (wdsV r)) (i : Nat) (hi : i < r.length) : w.cell? ((slB v).add i) = some (.int .u64 (gi r i)) := by
  refine h.cell i _ ?_
  simp [wdsV, gi, hi]
theorem rdN_ptr {G : Nat → Prop} {w : World} {v : Value} {n : Nat} {r : List Nat} (h : Rd G w v n (natsV r)) (hl : 0 < r.length) : (slA v).isSome = true := (h.ptr (by rw [natsV_length]; exact hl)).1
theorem rdW_ptr {G : Nat → Prop} {w : World} {v : Value} {n : Nat} {r : List Int} (h : Rd G w v n (wdsV r)) (hl : 0 < r.length) : (slA v).isSome = true := (h.ptr (by rw [wdsV_length]; exact hl)).1

/-! ### The used symbols stand by length -/
theorem rkN_pw (l : List Int) : ∀ k, (rkN l k).Pairwise fun a b => gi l a ≤ gi l b
  | 0 => by simp [rkN]
  | k + 1 => by
    rw [rkN_snoc, List.pairwise_append]
    refine ⟨rkN_pw l k, ?_, ?_⟩
    · refine List.pairwise_iff_getElem.2 fun i j hi hj _ => ?_
      have a := (filN_mem.1 (List.getElem_mem hi)).2
      have b := (filN_mem.1 (List.getElem_mem hj)).2
      omega
    · intro a ha b hb
      obtain ⟨_, n, hn, e⟩ := rkN_mem.1 ha
      have := (filN_mem.1 hb).2
      omega
theorem rkN_nodup (l : List Int) : ∀ k, (rkN l k).Nodup
  | 0 => by simp [rkN]
  | k + 1 => by
    rw [rkN_snoc, List.nodup_append]
    refine ⟨rkN_nodup l k, (List.nodup_range).filter _, ?_⟩
    intro a ha b hb e
    subst e
    obtain ⟨_, n, hn, e⟩ := rkN_mem.1 ha
    have := (filN_mem.1 hb).2
    omega
def rk (l : List Int) : List Nat := rkN l 24
theorem rk_lt {l : List Int} {i : Nat} (h : i < (rk l).length) : gnn (rk l) i < l.length ∧ 1 ≤ gi l (gnn (rk l) i) ∧ gi l (gnn (rk l) i) ≤ 24 := by
  obtain ⟨a, n, hn, e⟩ := rkN_mem.1 (gnn_mem (r := rk l) h)
  omega
theorem rk_mono {l : List Int} {i j : Nat} (hij : i < j) (h : j < (rk l).length) : gi l (gnn (rk l) i) ≤ gi l (gnn (rk l) j) := by
  have := List.pairwise_iff_getElem.1 (rkN_pw l 24) i j (by unfold rk at h; omega) h hij
  have e1 : (rkN l 24)[i]'(by unfold rk at h; omega) = gnn (rk l) i := gnn_get (r := rk l) (by omega)
  have e2 : (rkN l 24)[j]'h = gnn (rk l) j := gnn_get (r := rk l) h
  rw [e1, e2] at this
  exact this
theorem rk_le (l : List Int) : (rk l).length ≤ 24 * l.length := rkN_le l 24

/-! ### Words -/
def stepC (l : List Int) (st : List Int × Int × Int) (s : Nat) : List Int × Int × Int :=
  let wd := if 0 < st.2.2 then shl .u64 (IntKind.u64.wrap (st.2.1 + 1)) (gi l s - st.2.2) else st.2.1
  (st.1.set s wd, wd, gi l s)
def cdN (l : List Int) (i : Nat) : List Int × Int × Int := ((rk l).take i).foldl (stepC l) (List.replicate l.length 0, 0, 0)
theorem cdN_snoc {l : List Int} {i : Nat} (h : i < (rk l).length) : cdN l (i + 1) = stepC l (cdN l i) (gnn (rk l) i) := by
  unfold cdN
  rw [gnn_take h, List.foldl_append]; rfl
theorem cdN_len (l : List Int) (i : Nat) : (cdN l i).1.length = l.length := by
  unfold cdN
  suffices h : ∀ (r : List Nat) (st : List Int × Int × Int), st.1.length = l.length → (r.foldl (stepC l) st).1.length = l.length from h _ _ (by simp)
  intro r
  induction r with
  | nil => intro st h; exact h
  | cons x r ih => intro st h; exact ih _ (by simp [stepC, h])
theorem cdN_before {l : List Int} {i : Nat} (h : i < (rk l).length) : (cdN l (i + 1)).2.2 = gi l (gnn (rk l) i) := by rw [cdN_snoc h]; rfl
theorem gi_set' (l : List Int) (i : Nat) (v : Int) (h : i < l.length) : gi (l.set i v) i = v := by simp [gi, h]
theorem gi_set_ne (l : List Int) (i j : Nat) (v : Int) (h : i ≠ j) : gi (l.set i v) j = gi l j := by simp [gi, List.getElem?_set, h]
theorem cdN_word {l : List Int} {i : Nat} (h : i < (rk l).length) : gi (cdN l (i + 1)).1 (gnn (rk l) i) = (cdN l (i + 1)).2.1 := by
  rw [cdN_snoc h]
  exact gi_set' _ _ _ (by rw [cdN_len]; exact (rk_lt h).1)
theorem cdN_one (l : List Int) : (cdN l 1).1 = List.replicate l.length 0 := by
  unfold cdN
  rcases rk l with _ | ⟨x, r⟩
  · rfl
  · simp [stepC]
def OwnW (w w' : World) (v : Value) (l : List Int) : Prop := Hp w w' [.own 33 1 v l.length (wdsV l)]
def cdW (l : List Int) : List Int := (cdN l (rk l).length).1
def codesP (l : List Int) : List Int := if fullB l then cdW l else []
def erP (l : List Int) : Int := if fullB l then 0 else 1

set_option maxHeartbeats 4000000 in
theorem codes_c {G : Nat → Prop} {w : World} {v : Value} {l : List Int} (hr : Rd G w v l.length (intsV l)) (hl : l.length ≤ 1000000) :
    Calls Try.prog 15 [v].toArray w (Ret fun r w' => ∃ u, r = .tuple #[u, .int .i64 (erP l)] ∧ OwnW w w' u (codesP l)) := by
  refine F_sound c15 (by simp [fc15]) ?_
  obtain ⟨hS, hSL⟩ := hr.sl
  have hM : maxLen = 9223372036854775807 := rfl
  simp [fc15, s15]
  refine callp (full_c hr hl) (by simp) ?_
  simp
  by_cases hf : fullB l = true
  · have hlen : l.length ≤ 1024 := by unfold fullB at hf; simp at hf; omega
    refine ite_r (t := false) (by simp [hf]) (fun h => by cases h) (fun _ => ?_)
    simp [hS, hSL]
    refine mkN_h slTU (kl := .i64) (kc := .i64) (n := l.length) (xs := wdsV (List.replicate l.length 0)) (Hp.nil w) (by simp [hS, hSL]) (by simp [hS, hSL]) (by omega) (by omega) (fun z hz => by rw [zeroU hz, wdsV_zeros]) ?_
    intro vw w1 H M1
    refine ⟨.inl rfl, ?_⟩
    simp
    refine call_h (ranked_c (hr.at M1) hl) (by simp) ?_
    intro rv w2 HR
    have H2 : Hp w w2 ([.own 33 1 vw l.length (wdsV (List.replicate l.length 0))] ++ [.own 3 1 rv (rk l).length (natsV (rk l))]) := H.join HR
    obtain ⟨rS, rL⟩ := (H2.rd 1 rfl).sl
    have hrl := rk_le l
    simp [rS, rL]
    refine for_r (rk l).length (fun i env' w' => env' 0 = v ∧ env' 4 = vw ∧ env' 16 = rv ∧ env' 17 = .int .i64 (rk l).length ∧ env' 18 = .int .i64 i ∧ env' 5 = .int .u64 (cdN l i).2.1 ∧ env' 6 = .int .i64 (cdN l i).2.2 ∧
      Hp w w' [.own 33 1 vw l.length (wdsV (cdN l i).1), .own 3 1 rv (rk l).length (natsV (rk l))]) ?_ ?_ ?_
    · exact ⟨by simp, by simp, by simp, by simp, by simp, by simp [cdN], by simp [cdN], by simpa [cdN] using H2⟩
    · rintro i env w3 hi ⟨e0, e4, e16, e17, e18, e5, e6, H⟩
      have wi : IntKind.i64.wrap ((i : Int) + 1) = ((i + 1 : Nat) : Int) := by rw [wI (by omega) (by omega)]; omega
      obtain ⟨k1, k2, k3⟩ := rk_lt hi
      have cs := rdN (H.rd 1 rfl) i hi
      have ps := rdN_ptr (H.rd 1 rfl) (by omega)
      have hx := (hr.at H.mod).gi (gnn (rk l) i) k1
      have px := hr.some (by omega)
      obtain ⟨vS, vL⟩ := (H.rd 0 rfl).sl
      have pw := rdW_ptr (H.rd 0 rfl) (by rw [cdN_len]; omega)
      have hcl := cdN_len l i
      have hbf : 0 ≤ (cdN l i).2.2 ∧ (cdN l i).2.2 ≤ gi l (gnn (rk l) i) := by
        rcases i with _ | i
        · have : (cdN l 0).2.2 = 0 := rfl
          omega
        · rw [cdN_before (by omega)]
          have := rk_mono (l := l) (i := i) (j := i + 1) (by omega) hi
          have := rk_lt (l := l) (i := i) (by omega)
          omega
      have hsn := cdN_snoc hi
      generalize gnn (rk l) i = s at *
      generalize cdN l i = st at *
      obtain ⟨ws, wd, bf⟩ := st
      simp only at *
      have wsub : IntKind.i64.wrap (gi l s - bf) = gi l s - bf := wI (by omega) (by omega)
      simp [e17, e18]
      refine ite_r (t := true) (by simp [hi]) (fun _ => ?_) (fun h => by cases h)
      simp [wp_blk, e6, e16, e18, rS, rL, ps, cs, hi]
      by_cases hb : 0 < bf
      · refine ite_r (t := true) (by simp [hb]) (fun _ => ?_) (fun h => by cases h)
        simp [e0, e4, e5, e6, hS, hSL, px, hx, k1, wsub, vS, vL, pw]
        refine ⟨by omega, ?_⟩
        refine set_h (i := s) (u := .int .u64 (shl .u64 (IntKind.u64.wrap (wd + 1)) (gi l s - bf))) 0 H rfl k1 (by simp [e4]) (by simp) rfl ?_
        intro w4 H
        refine ⟨.inl rfl, ?_⟩
        have hx' := (hr.at H.mod).gi s k1
        simp [e0, e18, hS, hSL, px, hx', k1, wi]
        have e : stepC l (ws, wd, bf) s = (ws.set s (shl .u64 (IntKind.u64.wrap (wd + 1)) (gi l s - bf)), shl .u64 (IntKind.u64.wrap (wd + 1)) (gi l s - bf), gi l s) := by unfold stepC; simp only; rw [if_pos hb]
        rw [hsn, e]
        exact ⟨e4, e16, e17, rfl, rfl, by rw [← wdsV_set]; exact H⟩
      · refine ite_r (t := false) (by simp [hb]) (fun h => by cases h) (fun _ => ?_)
        simp [e0, e4, e5, e6, hS, hSL, px, hx, k1, wsub, vS, vL, pw]
        refine set_h (i := s) (u := .int .u64 wd) 0 H rfl k1 (by simp [e4]) (by simp [e5]) rfl ?_
        intro w4 H
        refine ⟨.inl rfl, ?_⟩
        have hx' := (hr.at H.mod).gi s k1
        simp [e0, e18, hS, hSL, px, hx', k1, wi]
        have e : stepC l (ws, wd, bf) s = (ws.set s wd, wd, gi l s) := by unfold stepC; simp only; rw [if_neg hb]
        rw [hsn, e]
        exact ⟨e4, e16, e17, e5, rfl, by rw [← wdsV_set]; exact H⟩
    · rintro env w3 ⟨e0, e4, e16, e17, e18, e5, e6, H⟩
      simp [e17, e18]
      refine ite_r (t := false) (by simp) (fun h => by cases h) (fun _ => ?_)
      simp [e4, erP, hf]
      unfold codesP OwnW
      rw [if_pos hf, show (cdW l).length = l.length from cdN_len l _]
      exact H.drop 1
  · refine ite_r (t := true) (by simp [hf]) (fun _ => ?_) (fun h => by cases h)
    simp [erP, codesP, hf]
    exact (Hp.nil w).nilS


set_option maxHeartbeats 4000000 in
theorem codes2_c {G : Nat → Prop} {w : World} {v : Value} {l : List Int} (hr : Rd G w v l.length (intsV l)) (hl : l.length ≤ 1000000) :
    Calls Try.prog 17 [v].toArray w (Ret fun r w' => ∃ u, r = .tuple #[u, .int .i64 (erP l)] ∧ OwnW w w' u (codesP l)) := by
  refine F_sound c17 (by simp [fc17]) ?_
  obtain ⟨hS, hSL⟩ := hr.sl
  have hM : maxLen = 9223372036854775807 := rfl
  simp [fc17, s17]
  refine callp (full2_c hr hl) (by simp) ?_
  simp
  by_cases hf : fullB l = true
  · have hlen : l.length ≤ 1024 := by unfold fullB at hf; simp at hf; omega
    refine ite_r (t := false) (by simp [hf]) (fun h => by cases h) (fun _ => ?_)
    simp [hS, hSL]
    refine mkN_h slTU (kl := .i64) (kc := .i64) (n := l.length) (xs := wdsV (List.replicate l.length 0)) (Hp.nil w) (by simp [hS, hSL]) (by simp [hS, hSL]) (by omega) (by omega) (fun z hz => by rw [zeroU hz, wdsV_zeros]) ?_
    intro vw w1 H M1
    refine ⟨.inl rfl, ?_⟩
    simp
    refine call_h (used_c (hr.at M1) hl) (by simp) ?_
    intro rv w2 HR
    have H2 : Hp w w2 ([.own 33 1 vw l.length (wdsV (List.replicate l.length 0))] ++ [.own 3 1 rv (rk l).length (natsV (rk l))]) := H.join HR
    obtain ⟨rS, rL⟩ := (H2.rd 1 rfl).sl
    have hrl := rk_le l
    simp
    refine for_r ((rk l).length - 1) (fun i env' w' => env' 0 = v ∧ env' 4 = vw ∧ env' 5 = rv ∧ env' 6 = .int .i64 (i + 1 : Nat) ∧
      Hp w w' [.own 33 1 vw l.length (wdsV (cdN l (i + 1)).1), .own 3 1 rv (rk l).length (natsV (rk l))]) ?_ ?_ ?_
    · exact ⟨by simp, by simp, by simp, by simp, by rw [cdN_one]; exact H2⟩
    · rintro i env w3 hi ⟨e0, e4, e5, e6, H⟩
      have wi : IntKind.i64.wrap (((i + 1 : Nat) : Int) + 1) = ((i + 1 + 1 : Nat) : Int) := by rw [wI (by omega) (by omega)]; omega
      have wj : IntKind.i64.wrap (((i + 1 : Nat) : Int) - 1) = (i : Int) := by rw [wI (by omega) (by omega)]; omega
      have hi0 : i < (rk l).length := by omega
      have hi1 : i + 1 < (rk l).length := by omega
      obtain ⟨k1, k2, k3⟩ := rk_lt hi1
      obtain ⟨j1, j2, j3⟩ := rk_lt hi0
      have mono := rk_mono (l := l) (i := i) (j := i + 1) (by omega) hi1
      have HD := H.drew
      have cs := rdN (HD.rd 1 rfl) (i + 1) hi1
      have cp := rdN (HD.rd 1 rfl) i hi0
      have ps := rdN_ptr (H.rd 1 rfl) (by omega)
      have hx := (hr.at HD.mod).gi (gnn (rk l) (i + 1)) k1
      have hy := (hr.at HD.mod).gi (gnn (rk l) i) j1
      have px := hr.some (by omega)
      obtain ⟨vS, vL⟩ := (H.rd 0 rfl).sl
      have pw := rdW_ptr (H.rd 0 rfl) (by rw [cdN_len]; omega)
      have hcl := cdN_len l (i + 1)
      have hwd := rdW (HD.rd 0 rfl) (gnn (rk l) i) (by rw [hcl]; exact j1)
      rw [cdN_word hi0] at hwd
      have hsn := cdN_snoc hi1
      have hbe := cdN_before hi0
      generalize hq : i + 1 = q at *
      generalize gnn (rk l) q = s at *
      generalize gnn (rk l) i = p at *
      generalize cdN l q = st at *
      obtain ⟨ws, wd, bf⟩ := st
      simp only at *
      subst hbe
      have wsub : IntKind.i64.wrap (gi l s - gi l p) = gi l s - gi l p := wI (by omega) (by omega)
      have wu : IntKind.u64.wrap (gi l s - gi l p) = gi l s - gi l p := by
        obtain ⟨k, hk⟩ : ∃ k : Nat, gi l s - gi l p = k := ⟨(gi l s - gi l p).toNat, by omega⟩
        rw [hk]
        exact wU (by omega) (by omega)
      have e : stepC l (ws, wd, gi l p) s = (ws.set s (shl .u64 (IntKind.u64.wrap (wd + 1)) (gi l s - gi l p)), shl .u64 (IntKind.u64.wrap (wd + 1)) (gi l s - gi l p), gi l s) := by unfold stepC; simp only; rw [if_pos (by omega)]
      simp at cs cp hx hy hwd
      simp [e5, e6, rS, rL, -Int.natCast_add]
      refine ite_r (t := true) (by simp [hi1]) (fun _ => ?_) (fun h => by cases h)
      simp [wp_blk, wp_draw, e0, e4, e5, e6, rS, rL, ps, cs, cp, hi0, hi1, wj, vS, vL, pw, hwd, hS, hSL, px, hx, hy, j1, k1, wsub, wu, -Int.natCast_add]
      refine ⟨by omega, ?_⟩
      refine set_h (i := s) (u := .int .u64 (shl .u64 (IntKind.u64.wrap (wd + 1)) (gi l s - gi l p))) 0 HD rfl k1 (by simp [e4]) (by simp [wsub, wu]) rfl ?_
      intro w4 H
      refine ⟨.inl rfl, ?_⟩
      simp [e0, e4, e5, e6, wi, -Int.natCast_add]
      rw [hsn, e, ← wdsV_set]
      exact H
    · rintro env w3 ⟨e0, e4, e5, e6, H⟩
      have hfin : (cdN l ((rk l).length - 1 + 1)).1 = cdW l := by
        rcases Nat.eq_zero_or_pos (rk l).length with h | h
        · unfold cdW
          rw [h, cdN_one]; rfl
        · rw [show (rk l).length - 1 + 1 = (rk l).length by omega]; rfl
      rw [hfin] at H
      generalize hq : (rk l).length - 1 + 1 = q at *
      simp [e5, e6, rS, rL]
      refine ite_r (t := false) (by simp; omega) (fun h => by cases h) (fun _ => ?_)
      simp [e4, erP, hf]
      unfold codesP OwnW
      rw [if_pos hf, show (cdW l).length = l.length from cdN_len l _]
      exact H.drop 1
  · refine ite_r (t := true) (by simp [hf]) (fun _ => ?_) (fun h => by cases h)
    simp [erP, codesP, hf]
    exact (Hp.nil w).nilS

end Go.Proofs.Ytgjnfajdejkkjaa.VG
