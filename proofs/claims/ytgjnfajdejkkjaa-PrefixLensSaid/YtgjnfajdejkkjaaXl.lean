/-
  The document's lengths: the walk.
-/
import Derived.Test.YtgjnfajdejkkjaaXk
namespace Go.Proofs.Ytgjnfajdejkkjaa.VG
open Go
set_option linter.unusedSimpArgs false
set_option linter.unusedVariables false
set_option maxRecDepth 20000

def DcI (w : World) (u : Value) (most : Int) (freq : List Int) (i : Nat) (env' : Env) (w' : World) : Prop :=
  env' 0 = u ∧ env' 1 = .int .i64 most ∧ env' 7 = .int .i64 i ∧ ∃ (A : List Dn) (B : List (Value × List Nat)) (vc : Value), env' 6 = vc ∧ CnD freq i A ∧ A.length ≤ i ∧ InB A B ∧ Hp w w' [.own 70 2 vc A.length (thV A), .bag B]
theorem DcI.skip {w w' : World} {u : Value} {most : Int} {freq : List Int} {i : Nat} {env env' : Env} (h : DcI w u most freq i env w') (h0 : ¬ 0 < gi freq i) (e0 : env' 0 = env 0) (e1 : env' 1 = env 1) (e6 : env' 6 = env 6) (e7 : env' 7 = .int .i64 (i + 1 : Nat)) : DcI w u most freq (i + 1) env' w' := by
  obtain ⟨a, b, c, A, B, vc, d, e, f, g, H⟩ := h
  exact ⟨e0.trans a, e1.trans b, e7, A, B, vc, e6.trans d, e.none h0, by omega, g, H⟩

/-- Rounds of the document. -/
def DrI (w : World) (u : Value) (m : Nat) (vc vl : Value) (freq : List Int) (A : List Dn) (k : Nat) (env' : Env) (w' : World) : Prop :=
  env' 1 = .int .i64 m ∧ env' 6 = vc ∧ env' 8 = .int .i64 A.length ∧ env' 9 = vl ∧ env' 11 = .int .i64 (k + 1 : Nat) ∧ ∃ (R : List Dn) (B : List (Value × List Nat)) (vr : Value), env' 10 = vr ∧ R.map thD = rowT (cnT freq) k ∧ InB R B ∧ InB A B ∧ Rd (fun _ => True) w' vc A.length (thV A) ∧ A.length ≤ slC vc ∧
    Hp w w' [.own 70 2 vr R.length (thV R), .own 3 1 vl freq.length (intsV (List.replicate freq.length 0)), .bag B]
/-- Packages of a row. -/
def DpI (w4 : World) (m k : Nat) (vc vl vr : Value) (A R : List Dn) (j : Nat) (env' : Env) (w' : World) : Prop :=
  env' 1 = .int .i64 m ∧ env' 6 = vc ∧ env' 8 = .int .i64 A.length ∧ env' 9 = vl ∧ env' 11 = .int .i64 (k + 1 : Nat) ∧ env' 10 = vr ∧ env' 13 = .int .i64 (2 * j : Nat) ∧ ∃ (Pp : List Dn) (D : List (Value × List Nat)) (vp : Value), env' 12 = vp ∧ Pp.map thD = (pkT (R.map thD)).take j ∧ InB Pp D ∧
    Hp w4 w' [.own 70 2 vp Pp.length (thV Pp), .bag D]

section
variable {Q : Exit → Env → World → Prop} {env : Env} {w w4 : World} {kk : S}
end

set_option maxHeartbeats 8000000 in
theorem dlens_c {G : Nat → Prop} {w : World} {u : Value} {freq : List Int} (most : Int) (hr : Rd G w u freq.length (intsV freq)) (hsz : freq.length ≤ 1000 ∨ 1024 < freq.length) (hml : freq.length ≤ maxLen) :
    Calls Try.prog 13 [u, .int .i64 most].toArray w (Ret fun x w' => ∃ v, x = .tuple #[v, .int .i64 (lenE freq most)] ∧ Hp w w' [.own 3 1 v (lenQ freq most).length (intsV (lenQ freq most))]) := by
  refine F_sound c13 (by simp [fc13]) ?_
  obtain ⟨hS, hSL⟩ := hr.sl
  have hM : maxLen = 9223372036854775807 := rfl
  have hnil : ∀ {w' : World}, Mod none' w w' → Hp w w' [.own 3 1 (.slice none 0 0) ([] : List Int).length (intsV [])] := fun M => (Hp.ofMod M).nilS
  simp [fc13, s13, hS, hSL]
  by_cases hargs : freq.length < 1 ∨ 1024 < freq.length ∨ most < 1 ∨ 24 < most
  · have hE : lenE freq most = 1 := by unfold lenE; rw [if_pos (by omega)]
    have hQ : lenQ freq most = [] := by unfold lenQ; rw [hE]; rfl
    rw [hE, hQ]
    refine ite_r (t := true) (by simp; omega) (fun _ => ?_) (fun h => by cases h)
    simp
    exact hnil (Mod.refl _ _)
  have h1 : 1 ≤ freq.length := by omega
  have h2 : freq.length ≤ 1000 := by omega
  obtain ⟨m, rfl⟩ : ∃ m : Nat, most = m := ⟨most.toNat, by omega⟩
  have m1 : 1 ≤ m := by omega
  have m2 : m ≤ 24 := by omega
  refine ite_r (t := false) (by simp; omega) (fun h => by cases h) (fun _ => ?_)
  simp
  have H : Hp w w [.own 70 2 (.slice none 0 0) 0 [], .bag []] := ((Hp.nil w).nilS (e := 70) (size := 2)).add (i := It.bag []) (F := fun _ => False) (Mod.refl _ _) bag_nil (fun k hk => hk.elim)
  refine for_r freq.length (fun i env' w' => DcI w u m freq i env' w' ∧ ∀ j, j < i → 0 ≤ gi freq j ∧ gi freq j ≤ 1099511627776) ?_ ?_ ?_
  · exact ⟨⟨by simp, by simp, by simp, [], [], _, by simp, rfl, Nat.le_refl _, (fun d hd => by cases hd), H⟩, fun j hj => by omega⟩
  · rintro i env w1 hi ⟨hI, hgood⟩
    have hI0 := hI
    obtain ⟨e0, e1, e7, A, B, vc, e6, hA, hAl, hAB, H⟩ := hI
    have wi : IntKind.i64.wrap ((i : Int) + 1) = ((i + 1 : Nat) : Int) := by rw [wI (by omega) (by omega)]; omega
    have cf := (hr.at H.mod).gi i hi
    have pf := hr.some (by omega)
    simp [e0, e7, hS, hSL]
    refine ite_r (t := true) (by simp [hi]) (fun _ => ?_) (fun h => by cases h)
    simp [wp_blk, e0, e1, e7, hS, hSL, pf, cf, hi]
    by_cases hfb : gi freq i < 0 ∨ 1099511627776 < gi freq i
    · have hE : lenE freq m = 1 := by
        unfold lenE
        have : freq.all okF = false := by
          rw [List.all_eq_false]
          refine ⟨_, gi_mem freq i hi, ?_⟩
          simp [okF]; omega
        rw [if_pos (by simp [this])]
      have hQ : lenQ freq m = [] := by unfold lenQ; rw [hE]; rfl
      rw [hE, hQ]
      refine ite_r (t := true) (by simp; omega) (fun _ => ?_) (fun h => by cases h)
      simp
      exact hnil H.mod
    have hgood' : ∀ j, j < i + 1 → 0 ≤ gi freq j ∧ gi freq j ≤ 1099511627776 := fun j hj => by
      rcases Nat.lt_or_ge j i with h | h
      · exact hgood j h
      · obtain rfl : j = i := by omega
        omega
    refine ite_r (t := false) (by simp; omega) (fun h => by cases h) (fun _ => ?_)
    simp [e0, e7, hS, hSL, pf, cf, hi]
    by_cases hpos : 0 < gi freq i
    · refine ite_r (t := true) (by simp [hpos]) (fun _ => ?_) (fun h => by cases h)
      simp [e0, e7, hS, hSL, pf, cf, hi]
      refine bs_h slTI [.int .i64 i] H rfl (by omega) (by simp [e7]) (by simp [Value.cells]) ?_
      intro v61 w2 H2 M2
      refine ⟨.inl rfl, ?_⟩
      replace H2 : Hp w w2 [.own 70 2 vc A.length (thV A), .bag B, .own 3 1 v61 [i].length (natsV [i])] := H2
      obtain ⟨q1, q2, q3, hv61⟩ : DnS ⟨gi freq i, v61, [i]⟩ := by
        obtain ⟨cap, hv⟩ := (H2.rd 2 rfl).is
        exact ⟨_, _, _, hv⟩
      have hxs : DnS ⟨gi freq i, v61, [i]⟩ := ⟨q1, q2, q3, hv61⟩
      have hv61 : v61 = .slice q1 q2 q3 := hv61
      simp [putAt, Value.cells, hv61]
      refine call_h (rising_c (H2.rt 0 rfl (hAB.sl H2 1 rfl)) hxs (by omega)) (by simp [e6, dnV, putAt, Value.cells, hv61]) ?_
      rintro r w3 ⟨z, hz, z1, z2, HR⟩
      have hput := hA.put hi hpos (x := ⟨gi freq i, v61, [i]⟩) rfl hz z1 z2
      have hlen : (A.take z ++ ([(⟨gi freq i, v61, [i]⟩ : Dn)] ++ A.drop z)).length ≤ i + 1 := by simp; omega
      have hin : InB (A.take z ++ ([(⟨gi freq i, v61, [i]⟩ : Dn)] ++ A.drop z)) (B ++ [(v61, [i])]) := fun d hd => by
        rcases List.mem_append.1 hd with hd | hd
        · exact hAB.more d (List.mem_of_mem_take hd)
        rcases List.mem_append.1 hd with hd | hd
        · simp only [List.mem_singleton] at hd; subst hd; simp
        · exact hAB.more d (List.mem_of_mem_drop hd)
      generalize A.take z ++ ([(⟨gi freq i, v61, [i]⟩ : Dn)] ++ A.drop z) = A' at *
      have J := (H2.join HR).drop 0
      have J1 : Hp w w3 ([.own 70 2 r A'.length (thV A')] ++ [.bag B, .own 3 1 v61 [i].length (natsV [i])]) := J.perm (List.perm_append_comm (l₁ := [_, _]) (l₂ := [_]))
      have J2 := Hp.fuse _ (.bag (B ++ [(v61, [i])])) J1 (fun F1 F2 a b => bag_own a b)
      simp [e7, wi]
      exact ⟨⟨by simp [e0], by simp [e1], by simp, A', _, r, by simp, hput, hlen, hin, J2⟩, hgood'⟩
    · refine ite_r (t := false) (by simp; omega) (fun h => by cases h) (fun _ => ?_)
      simp [e7, wi]
      exact ⟨hI0.skip hpos (by simp) (by simp) (by simp) (by simp), hgood'⟩
  · rintro env w1 ⟨⟨e0, e1, e7, A, B, vc, e6, hA, hAl, hAB, H⟩, hgood⟩
    have hf : ∀ x ∈ freq, 0 ≤ x ∧ x ≤ 1099511627776 := fun x hx => by
      obtain ⟨j, hj, rfl⟩ := List.mem_iff_getElem.1 hx
      have := hgood j hj
      rwa [gi_get _ _ hj] at this
    have hall : freq.all okF = true := List.all_eq_true.2 fun x hx => by
      have := hf x hx
      simp [okF, this]
    have hE : lenE freq m = if (usd freq).length = 0 then 7 else if 2 ^ m < (usd freq).length then 6 else 0 := by
      unfold lenE
      rw [if_neg (by rintro (h | h | h | h | h) <;> first | omega | (rw [hall] at h; cases h)), Int.toNat_natCast]
    have hAc := hA.all
    have hAn : A.length = (usd freq).length := by
      rw [← us_len, ← hAc, List.length_map]
    obtain ⟨cS, cL⟩ := (H.rd 0 rfl).sl
    simp [e0, e7, hS, hSL]
    refine ite_r (t := false) (by simp) (fun h => by cases h) (fun _ => ?_)
    simp [e6, cS, cL]
    by_cases hz0 : A.length = 0
    · rw [if_pos (by omega)] at hE
      have hQ : lenQ freq m = [] := by unfold lenQ; rw [hE]; rfl
      rw [hE, hQ]
      obtain rfl : A = [] := List.length_eq_zero_iff.1 (by omega)
      refine ite_r (t := true) (by simp) (fun _ => ?_) (fun h => by cases h)
      simp
      exact hnil H.mod
    rw [if_neg (by omega)] at hE
    have hA0 : A ≠ [] := by intro h; rw [h] at hz0; exact hz0 rfl
    refine ite_r (t := false) (by simp; exact hA0) (fun h => by cases h) (fun _ => ?_)
    have wu : IntKind.u64.wrap (m : Int) = (m : Int) := wU (by omega) (by omega)
    have hsh : shl .i64 1 m = ((2 ^ m : Nat) : Int) := by
      have := shl_p2 (d := m) (by omega) (by omega)
      rw [this]; simp [p2]
    simp [e1, wu, hsh, -Int.natCast_pow]
    by_cases hbig : 2 ^ m < A.length
    · rw [if_pos (by omega)] at hE
      have hQ : lenQ freq m = [] := by unfold lenQ; rw [hE]; rfl
      rw [hE, hQ]
      refine ite_r (t := true) (by simp [-Int.natCast_pow]; omega) (fun _ => ?_) (fun h => by cases h)
      simp
      exact hnil H.mod
    rw [if_neg (by omega)] at hE
    refine ite_r (t := false) (by simp [-Int.natCast_pow]; omega) (fun h => by cases h) (fun _ => ?_)
    simp [e0, hS, hSL]
    refine mkN_h slTI (kl := .i64) (kc := .i64) (n := freq.length) (xs := intsV (List.replicate freq.length 0)) H (by simp [e0, hS, hSL]) (by simp [e0, hS, hSL]) (by omega) (by omega) (fun z hz => by rw [zero64 hz, intsV_zeros]) ?_
    intro vl w2 H M2
    refine ⟨.inl rfl, ?_⟩
    replace H : Hp w w2 [.own 70 2 vc A.length (thV A), .bag B, .own 3 1 vl freq.length (intsV (List.replicate freq.length 0))] := H
    simp
    by_cases hone : A.length = 1
    · obtain ⟨d, rfl⟩ : ∃ x, A = [x] := List.length_eq_one_iff.1 hone
      obtain ⟨s, hus⟩ : ∃ x, usd freq = [x] := List.length_eq_one_iff.1 (by omega)
      have hQ : lenQ freq m = (List.replicate freq.length 0).set s 1 := by
        unfold lenQ
        rw [hE, if_neg (by simp), if_pos (by omega), hus]
        rfl
      have hcp := cnT_perm freq
      rw [hus, ← hAc] at hcp
      have hdl : thD d = coin freq s := by
        have := hcp.mem_iff.1 (show thD d ∈ [d].map thD by simp)
        simpa using this
      have hl1 : d.l = [s] := congrArg Prod.snd hdl
      have hsl : s < freq.length := (usd_mem.1 (show s ∈ usd freq by rw [hus]; simp)).1
      have hrt := H.rt 0 rfl (hAB.sl H 1 rfl)
      obtain ⟨_, c1, _, _⟩ := hrt.cells (i := 0) (d := d) rfl
      have pv := hrt.ptr (by simp)
      have hd := H.bag 1 rfl _ (hAB d (by simp))
      rw [hl1] at hd
      obtain ⟨dS, dL⟩ := hd.sl
      have cs := rdN hd 0 (by simp)
      have ps := rdN_ptr hd (by simp)
      have cs : w2.cell? ((slB d.v).add 0) = some (.int .i64 s) := cs
      rw [add_zero] at cs
      simp [add_zero] at c1
      obtain ⟨lS, lL⟩ := (H.rd 2 rfl).sl
      have pl := (H.rd 2 rfl).some (by simp; omega)
      refine ite_r (t := true) (by simp) (fun _ => ?_) (fun h => by cases h)
      simp [e6, cS, cL, pv, c1, dS, dL, cs, ps, lS, lL, pl, hsl, add_zero]
      refine set_h (i := s) (u := .int .i64 1) 2 H rfl hsl (by simp) (by simp) rfl ?_
      intro w3 H
      refine ⟨.inl rfl, ?_⟩
      simp
      have e1 : (intsV (List.replicate freq.length 0)).set s (.int .i64 1) = intsV ((List.replicate freq.length 0).set s 1) := by simp [intsV, List.map_set]
      rw [hE, hQ]
      rw [e1] at H
      have := (H.drop 0).drop 0
      exact ⟨vl, ⟨rfl, rfl⟩, by simpa using this⟩
    have hQ : lenQ freq m = lenP freq m := by
      unfold lenQ
      rw [hE, if_neg (by simp), if_neg (by omega), Int.toNat_natCast]
    have hnk : A.length ≤ 2 ^ m := by omega
    have hcl : (cnT freq).length = A.length := by rw [us_len, hAn]
    rw [hE, hQ, lenP_len]
    refine ite_r (t := false) (by simp; omega) (fun h => by cases h) (fun _ => ?_)
    simp
    replace H := H.perm (l' := [.own 70 2 vc A.length (thV A), .own 3 1 vl freq.length (intsV (List.replicate freq.length 0)), .bag B]) (List.Perm.cons _ (List.Perm.swap _ _ _))
    have hrt0 := H.rt 0 rfl (hAB.sl H 2 rfl)
    refine for_r (m - 1) (DrI w u m vc vl freq A) ?_ ?_ ?_
    · exact ⟨by simp [e1], by simp [e6], by simp, by simp, by simp, A, B, vc, by simp [e6], hAc, hAB, hAB, hrt0.rd.top, hrt0.cap, H⟩
    · rintro k env w4 hk ⟨e1, e6, e8, e9, e11, R, B, vr, e10, hR, hRB, hAB, hArd, hAcap, H⟩
      have wk : IntKind.i64.wrap (((k + 1 : Nat) : Int) + 1) = ((k + 1 + 1 : Nat) : Int) := by rw [wI (by omega) (by omega)]; omega
      have hRl : R.length < 2 * A.length := by
        have h3 := congrArg List.length hR
        rw [List.length_map] at h3
        have := (row_short (cnT freq) (by omega) k).1
        omega
      have hrt := H.rt 0 rfl (hRB.sl H 2 rfl)
      have hbag := H.bag 2 rfl
      obtain ⟨rS, rL⟩ := hrt.rd.sl
      have hsl := hRB.sl H 2 rfl
      have hslA := hAB.sl H 2 rfl
      simp [e1, e11, -Int.natCast_add]
      refine ite_r (t := true) (by simp; omega) (fun _ => ?_) (fun h => by cases h)
      show S.wp _ (S.blk 3 _ _) _ _ _
      rw [wp_blk]
      simp
      have J : Hp w4 w4 [.own 70 2 (.slice none 0 0) 0 [], .bag []] := ((Hp.nil w4).nilS (e := 70) (size := 2)).add (i := It.bag []) (F := fun _ => False) (Mod.refl _ _) bag_nil (fun k hk => hk.elim)
      refine for_r (R.length / 2) (DpI w4 m k vc vl vr A R) ?_ ?_ ?_
      · exact ⟨by simp [e1], by simp [e6], by simp [e8], by simp [e9], by simp [e11, -Int.natCast_add], by simp [e10], by simp, [], [], _, by simp, by simp, (fun d hd => by cases hd), J⟩
      · rintro j env w5 hj ⟨e1, e6, e8, e9, e11, e10, e13, Pp, D, vp, e12, hPp, hPD, J⟩
        have hj2 : 2 * j + 1 < R.length := by omega
        obtain ⟨a, ha⟩ : ∃ a, R[2 * j]? = some a := ⟨R[2 * j]'(by omega), List.getElem?_eq_getElem (by omega)⟩
        obtain ⟨b, hb⟩ : ∃ a, R[2 * j + 1]? = some a := ⟨R[2 * j + 1]'(by omega), List.getElem?_eq_getElem (by omega)⟩
        have ham : thD a ∈ rowT (cnT freq) k := by rw [← hR]; exact List.mem_map_of_mem (List.mem_of_getElem? ha)
        have hbm : thD b ∈ rowT (cnT freq) k := by rw [← hR]; exact List.mem_map_of_mem (List.mem_of_getElem? hb)
        have wa := row_w hf (by omega) (k := k) (by omega) _ ham
        have wb := row_w hf (by omega) (k := k) (by omega) _ hbm
        have sa := sy_len (freq := freq) (by omega) (k := k) (by omega) _ ham
        have sb := sy_len (freq := freq) (by omega) (k := k) (by omega) _ hbm
        have hPl : Pp.length = j := by
          have h3 := congrArg List.length hPp
          rw [List.length_map, List.length_take, pkT_len, List.length_map] at h3
          omega
        have hnx := pk_next (l := R.map thD) (j := j) (a := thD a) (b := thD b) (by rw [List.getElem?_map, ha]; rfl) (by rw [List.getElem?_map, hb]; rfl)
        have hba := hbag _ (hRB a (List.mem_of_getElem? ha))
        have hbb := hbag _ (hRB b (List.mem_of_getElem? hb))
        unfold thD at wa wb sa sb
        simp only at wa wb sa sb hba hbb
        have ws : IntKind.i64.wrap (a.wt + b.wt) = a.wt + b.wt := wI (by omega) (by omega)
        have w1' : IntKind.i64.wrap (((2 * j : Nat) : Int) + 1) = ((2 * j + 1 : Nat) : Int) := by rw [wI (by omega) (by omega)]; omega
        have w2' : IntKind.i64.wrap (((2 * j : Nat) : Int) + 2) = ((2 * (j + 1) : Nat) : Int) := by rw [wI (by omega) (by omega)]; omega
        generalize hq : 2 * j = q at *
        have hpv := hrt.ptr (by omega)
        have cel := fun (w' : World) (M : Mod none' w4 w') => (hrt.at M).cells ha
        have cel2 := fun (w' : World) (M : Mod none' w4 w') => (hrt.at M).cells hb
        obtain ⟨a0, a1, _, _⟩ := cel w5 J.mod
        obtain ⟨b0, b1, _, _⟩ := cel2 w5 J.mod
        have hq1 : q < R.length := by omega
        have JD := J.drew
        simp [e10, e13, rS, rL, w1', -Int.natCast_add]
        refine ite_r (t := true) (by simp; omega) (fun _ => ?_) (fun h => by cases h)
        simp [wp_blk, wp_draw, e10, e13, rS, rL, w1', hpv, a0, a1, b0, b1, hq1, hj2, -Int.natCast_add]
        refine bs_h slTI [] JD rfl (by omega) (by simp) (by simp) ?_
        intro v113 w6 J6 M6
        obtain ⟨a0', a1', _, _⟩ := cel w6 J6.mod
        obtain ⟨b0', b1', _, _⟩ := cel2 w6 J6.mod
        refine ⟨.inr (by
          simp [promsOk, promOk, e10, e13, w1', -Int.natCast_add]
          exact ⟨same_one b1 b1', same_one a1 a1', same_one b0 b0', same_one a0 a0'⟩), ?_⟩
        replace J6 : Hp w4 w6 [.own 70 2 vp Pp.length (thV Pp), .bag D, .own 3 1 v113 0 []] := J6
        refine app_h slTI 2 J6 rfl (hba.at J6.mod) (by simp [natsV_length]) (intsV_one _) (by omega) (by omega) (by simp) (by simp) ?_
        intro v119 w7 J7
        obtain ⟨a0'', a1'', _, _⟩ := cel w7 J7.mod
        obtain ⟨b0'', b1'', _, _⟩ := cel2 w7 J7.mod
        refine ⟨.inr (by
          simp [promsOk, promOk, e10, e13, w1', -Int.natCast_add]
          exact ⟨same_one b1' b1'', same_one b0' b0'', same_one a0' a0''⟩), ?_⟩
        refine app_h slTI 2 J7 rfl (hbb.at J7.mod) (by simp [natsV_length]) (intsV_one _) (by omega) (by omega) (by simp) (by simp) ?_
        intro v126 w8 J8
        obtain ⟨a0', a1', _, _⟩ := cel w8 J8.mod
        obtain ⟨b0', b1', _, _⟩ := cel2 w8 J8.mod
        refine ⟨.inr (by
          simp [promsOk, promOk, e10, e13, w1', -Int.natCast_add]
          exact ⟨same_one b0'' b0', same_one a0'' a0'⟩), ?_⟩
        have hnn : [] ++ natsV a.l ++ natsV b.l = natsV (a.l ++ b.l) := by simp [natsV, intsV]
        replace J8 : Hp w4 w8 [.own 70 2 vp Pp.length (thV Pp), .bag D, .own 3 1 v126 (a.l ++ b.l).length (natsV (a.l ++ b.l))] := by
          rw [← hnn, List.length_append, show a.l.length + b.l.length = 0 + a.l.length + b.l.length by omega]
          exact J8
        obtain ⟨q1, q2, q3, hv126⟩ : DnS ⟨a.wt + b.wt, v126, a.l ++ b.l⟩ := by
          obtain ⟨cap, hv⟩ := (J8.rd 2 rfl).is
          exact ⟨_, _, _, hv⟩
        have hxs : DnS ⟨a.wt + b.wt, v126, a.l ++ b.l⟩ := ⟨q1, q2, q3, hv126⟩
        have hv126 : v126 = .slice q1 q2 q3 := hv126
        simp [putAt, Value.cells, hv126, ws]
        refine appN_h slTT 0 J8 rfl (u := dnV ⟨a.wt + b.wt, v126, a.l ++ b.l⟩) (by omega) rfl (dn_one hxs) (by omega) (by omega) (by simp [dnV, putAt, Value.cells, hv126, ws]) (by simp [e12]) (by simp) (.inl rfl) ?_
        intro vb vp' w9 w10 M9 J9
        refine ⟨.inl rfl, ?_⟩
        have J10 : Hp w4 w10 ([.own 70 2 vp' (Pp ++ [(⟨a.wt + b.wt, v126, a.l ++ b.l⟩ : Dn)]).length (thV (Pp ++ [(⟨a.wt + b.wt, v126, a.l ++ b.l⟩ : Dn)]))] ++ [.bag D, .own 3 1 v126 (a.l ++ b.l).length (natsV (a.l ++ b.l))]) := by
          rw [← thV_snoc, List.length_append]; exact J9
        have J11 := Hp.fuse _ (.bag (D ++ [(v126, a.l ++ b.l)])) J10 (fun F1 F2 x y => bag_own x y)
        simp [e13, w2', -Int.natCast_add]
        refine ⟨by simp [e1], by simp [e6], by simp [e8], by simp [e9], by simp [e11, -Int.natCast_add], by simp [e10], by simp, Pp ++ [(⟨a.wt + b.wt, v126, a.l ++ b.l⟩ : Dn)], _, vp', by simp, ?_, ?_, J11⟩
        · rw [List.map_append, hPp, hnx]; rfl
        · intro d hd
          rcases List.mem_append.1 hd with hd | hd
          · exact hPD.more d hd
          · simp only [List.mem_singleton] at hd; subst hd; simp
      · rintro env w5 ⟨e1, e6, e8, e9, e11, e10, e13, Pp, D, vp, e12, hPp, hPD, J⟩
        have hall : (pkT (R.map thD)).take (R.length / 2) = pkT (R.map thD) := by
          have : (pkT (R.map thD)).length = R.length / 2 := by rw [pkT_len, List.length_map]
          rw [← this, List.take_length]
        rw [hall] at hPp
        have hPl : Pp.length = R.length / 2 := by
          have h3 := congrArg List.length hPp
          rwa [List.length_map, pkT_len, List.length_map] at h3
        generalize hq : 2 * (R.length / 2) = q at *
        have w1' : IntKind.i64.wrap ((q : Int) + 1) = ((q + 1 : Nat) : Int) := by rw [wI (by omega) (by omega)]; omega
        simp [e10, e13, rS, rL, w1', -Int.natCast_add]
        refine ite_r (t := false) (by simp; omega) (fun h => by cases h) (fun _ => ?_)
        simp
        have hA5 : Rt (fun _ => True) w5 vc A := ⟨hArd.at J.mod, hAcap, hslA⟩
        refine call_h (merged_c hA5 (J.rt 0 rfl (hPD.sl J 1 rfl)) (by omega) (by omega)) (by simp [e6, e12]) ?_
        rintro r w6 ⟨R', hR', hRm, K⟩
        have HK := (H.join J).join K
        have H1 := (HK.drop 0).drop 2
        have H2 : Hp w w6 ([.own 70 2 r R'.length (thV R'), .own 3 1 vl freq.length (intsV (List.replicate freq.length 0))] ++ [.bag B, .bag D]) := H1.perm (List.perm_append_comm (l₁ := [_, _, _]) (l₂ := [_]))
        have H3 := Hp.fuse _ (.bag (B ++ D)) H2 (fun F1 F2 x y => bag_bag x y)
        have hR3 : R'.map thD = rowT (cnT freq) (k + 1) := by rw [hR', hPp, hR, hAc]; rfl
        simp [e11, wk, -Int.natCast_add]
        refine ⟨by simp [e1], by simp [e6], by simp [e8], by simp [e9], by simp, R', B ++ D, r, by simp, hR3, ?_, hAB.more, (hArd.at J.mod).at K.mod, hAcap, H3⟩
        intro d hd
        rcases hRm d hd with h | h
        · exact hAB.more d h
        · exact List.mem_append_right _ (hPD d h)
    · clear H
      rintro env w4 ⟨e1, e6, e8, e9, e11, R, B, vr, e10, hR, hRB, hAB, hArd, hAcap, HF⟩
      clear hArd
      have hen := row_enough (c := cnT freq) (by omega) (k := m - 1) (by rw [show m - 1 + 1 = m by omega]; omega)
      have hRle := congrArg List.length hR
      rw [List.length_map] at hRle
      have hdoc := len_doc freq m
      rw [← hR, hcl] at hdoc
      have hsy := row_sy (cn_sy freq) (m - 1)
      rw [← hR] at hsy
      have hsl2 := sy_len (freq := freq) (by omega) (k := m - 1) (by omega)
      rw [← hR] at hsl2
      generalize hn : A.length = n at *
      have w2n : IntKind.i64.wrap (2 * (n : Int)) = ((2 * n : Nat) : Int) := by rw [wI (by omega) (by omega)]; omega
      have w2m : IntKind.i64.wrap (((2 * n : Nat) : Int) - 2) = ((2 * n - 2 : Nat) : Int) := by rw [wI (by omega) (by omega)]; omega
      rw [show m - 1 + 1 = m by omega] at e11
      simp [e1, e11]
      refine ite_r (t := false) (by simp) (fun h => by cases h) (fun _ => ?_)
      simp
      generalize hq : 2 * n - 2 = q at *
      refine for_r q (fun i env' w' => env' 8 = .int .i64 n ∧ env' 9 = vl ∧ env' 10 = vr ∧ env' 14 = .int .i64 i ∧
        Hp w w' [.own 70 2 vr R.length (thV R), .own 3 1 vl freq.length (intsV (addS (List.replicate freq.length 0) (symT ((R.map thD).take i)))), .bag B]) ?_ ?_ ?_
      · exact ⟨by simp [e8], by simp [e9], by simp [e10], by simp, by simpa [addS, symT] using HF⟩
      · rintro i env w5 hi ⟨e8, e9, e10, e14, H⟩
        have wi : IntKind.i64.wrap ((i : Int) + 1) = ((i + 1 : Nat) : Int) := by rw [wI (by omega) (by omega)]; omega
        have hiR : i < R.length := by omega
        obtain ⟨d, hd⟩ : ∃ d, R[i]? = some d := ⟨R[i], List.getElem?_eq_getElem hiR⟩
        have hdm := List.mem_of_getElem? hd
        have hdR : thD d ∈ R.map thD := List.mem_map_of_mem hdm
        have hds := hsy _ hdR
        have hdl := hsl2 _ hdR
        have hnext : symT ((R.map thD).take (i + 1)) = symT ((R.map thD).take i) ++ d.l := by
          rw [List.take_add_one, List.getElem?_map, hd]
          exact symT_snoc _ _
        have hL : (addS (List.replicate freq.length 0) (symT ((R.map thD).take i))).length = freq.length := by rw [addS_length, List.length_replicate]
        unfold thD at hds hdl
        simp only at hds hdl
        simp [e8, e14, w2n, w2m, -Int.natCast_mul]
        refine ite_r (t := true) (by simp; omega) (fun _ => ?_) (fun h => by cases h)
        show S.wp _ (S.blk 7 _ _) _ _ _
        rw [wp_blk]
        simp
        generalize hLL : addS (List.replicate freq.length 0) (symT ((R.map thD).take i)) = L at *
        refine for_r d.l.length (fun k env' w' => env' 8 = .int .i64 n ∧ env' 9 = vl ∧ env' 10 = vr ∧ env' 14 = .int .i64 i ∧ env' 15 = .int .i64 k ∧
          Hp w w' [.own 70 2 vr R.length (thV R), .own 3 1 vl freq.length (intsV (addS L (d.l.take k))), .bag B]) ?_ ?_ ?_
        · exact ⟨by simp [e8], by simp [e9], by simp [e10], by simp [e14], by simp, by simpa [addS] using H⟩
        · rintro k env w6 hk ⟨e8, e9, e10, e14, e15, H⟩
          have wk : IntKind.i64.wrap ((k : Int) + 1) = ((k + 1 : Nat) : Int) := by rw [wI (by omega) (by omega)]; omega
          have hrt := H.rt 0 rfl (hRB.sl H 2 rfl)
          obtain ⟨rS, rL⟩ := hrt.rd.sl
          have pr := hrt.ptr (by omega)
          obtain ⟨_, c1, _, _⟩ := hrt.cells hd
          have hb := H.bag 2 rfl _ (hRB d hdm)
          simp only at hb
          obtain ⟨dS, dL⟩ := hb.sl
          have cs := rdN hb k hk
          have ps := rdN_ptr hb (by omega)
          have hsN : gnn d.l k < freq.length := hds _ (gnn_mem hk)
          obtain ⟨s, hs⟩ : ∃ s, gnn d.l k = s := ⟨_, rfl⟩
          rw [hs] at cs hsN
          have hLk : (addS L (d.l.take k)).length = freq.length := by rw [addS_length]; exact hL
          obtain ⟨lS, lL⟩ := (H.rd 1 rfl).sl
          have co := (H.rd 1 rfl).gi s (by omega)
          have po := (H.rd 1 rfl).some (by omega)
          have hinc : addS L (d.l.take (k + 1)) = inc (addS L (d.l.take k)) s := by rw [gnn_take hk, addS_app, hs]; rfl
          generalize addS L (d.l.take k) = L' at *
          simp [e10, e14, e15, rS, rL, pr, c1, dS, dL, hiR]
          refine ite_r (t := true) (by simp [hk]) (fun _ => ?_) (fun h => by cases h)
          simp [wp_blk, e9, e10, e14, e15, rS, rL, pr, c1, dS, dL, cs, ps, lS, lL, co, po, hiR, hk, hsN]
          refine set_h (i := s) (u := .int .i64 (IntKind.i64.wrap (gi L' s + 1))) 1 H rfl hsN (by simp [e9]) (by simp) rfl ?_
          intro w7 H7
          refine ⟨.inl rfl, ?_⟩
          have e1' : (intsV L').set s (.int .i64 (IntKind.i64.wrap (gi L' s + 1))) = intsV (inc L' s) := by simp [inc, intsV, List.map_set]
          rw [e1'] at H7
          simp [e15, wk]
          exact ⟨by simp [e8], by simp [e9], by simp [e10], by simp [e14], by rw [hinc]; exact H7⟩
        · rintro env w6 ⟨e8, e9, e10, e14, e15, H⟩
          have hrt := H.rt 0 rfl (hRB.sl H 2 rfl)
          obtain ⟨rS, rL⟩ := hrt.rd.sl
          have pr := hrt.ptr (by omega)
          obtain ⟨_, c1, _, _⟩ := hrt.cells hd
          have hb := H.bag 2 rfl _ (hRB d hdm)
          simp only at hb
          obtain ⟨dS, dL⟩ := hb.sl
          simp [e10, e14, e15, rS, rL, pr, c1, dS, dL, hiR]
          refine ite_r (t := false) (by simp) (fun h => by cases h) (fun _ => ?_)
          simp [e14, wi]
          rw [List.take_length] at H
          exact ⟨by simp [e8], by simp [e9], by simp [e10], by rw [hnext, addS_app, hLL]; exact H⟩
      · rintro env w5 ⟨e8, e9, e10, e14, H⟩
        simp [e8, e14, w2n, w2m, -Int.natCast_mul]
        refine ite_r (t := false) (by simp) (fun h => by cases h) (fun _ => ?_)
        simp [e9]
        rw [hdoc] at H
        exact (H.drop 0).drop 1

end Go.Proofs.Ytgjnfajdejkkjaa.VG
