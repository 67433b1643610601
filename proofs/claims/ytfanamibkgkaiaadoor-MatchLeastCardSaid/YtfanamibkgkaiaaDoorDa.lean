/-
  Match: distances of codes, codes of distances.
-/
import Derived.Test.YtfanamibkgkaiaaDoorDl
namespace Go.Proofs.YtfanamibkgkaiaaDoor.VG
open Go
set_option linter.unusedSimpArgs false
set_option linter.unusedVariables false
set_option maxRecDepth 20000

section
variable {P : Program} {Q : Exit → Env → World → Prop} {env : Env} {w : World} {k : S}
theorem chk_s {e : E} (h : e.ok env w) (hk : k.wp P Q env w) : (S.chk e k).wp P Q env w := ⟨h, hk⟩
theorem set_s {x : Nat} {e : E} {v : Value} (h : e.ev env w = v) (hk : k.wp P Q (upd env x v) w) : (S.set x e k).wp P Q env w := by rw [wp_set, h]; exact hk
end

def nearBad (c wd : Int) : Bool := decide (c < 1) || decide (1048 < c) || decide (wd < 1) || decide (64 < wd)
def nearI (c wd : Int) : Int := if nearBad c wd = true then 0 else if 24 < c then c - 24 else max (ptY (c - 1).toNat * wd + ptX (c - 1).toNat) 1
theorem nearBad_no {c wd : Int} (h : ¬ nearBad c wd = true) : (1 ≤ c ∧ c ≤ 1048) ∧ 1 ≤ wd ∧ wd ≤ 64 := by
  simp [nearBad] at h; omega
theorem pt_bd : ∀ c, c < 24 → (-4 ≤ ptX c ∧ ptX c ≤ 4) ∧ 0 ≤ ptY c ∧ ptY c ≤ 4 := by decide
def tabP : Array Value := #[.int .i64 0, .int .i64 1, .int .i64 1, .int .i64 0, .int .i64 1, .int .i64 1, .int .i64 (-1), .int .i64 1, .int .i64 0, .int .i64 2, .int .i64 2, .int .i64 0, .int .i64 1, .int .i64 2, .int .i64 (-1), .int .i64 2, .int .i64 2, .int .i64 1, .int .i64 (-2), .int .i64 1, .int .i64 2, .int .i64 2, .int .i64 (-2), .int .i64 2, .int .i64 0, .int .i64 3, .int .i64 3, .int .i64 0, .int .i64 1, .int .i64 3, .int .i64 (-1), .int .i64 3, .int .i64 3, .int .i64 1, .int .i64 (-3), .int .i64 1, .int .i64 2, .int .i64 3, .int .i64 (-2), .int .i64 3, .int .i64 3, .int .i64 2, .int .i64 (-3), .int .i64 2, .int .i64 0, .int .i64 4, .int .i64 4, .int .i64 0]
theorem tabP_get (c : Nat) (h : c < 24) : tabP[c * 2]? = some (.int .i64 (ptX c)) ∧ tabP[c * 2 + 1]? = some (.int .i64 (ptY c)) := by
  have hl : tabP.size = 48 := by decide
  have hc : ∀ c, c < 24 → (tabP.toList[c * 2]? = some (.int .i64 (ptX c)) ∧ tabP.toList[c * 2 + 1]? = some (.int .i64 (ptY c))) := by
    intro c hc
    have hh : c = 0 ∨ c = 1 ∨ c = 2 ∨ c = 3 ∨ c = 4 ∨ c = 5 ∨ c = 6 ∨ c = 7 ∨ c = 8 ∨ c = 9 ∨ c = 10 ∨ c = 11 ∨ c = 12 ∨ c = 13 ∨ c = 14 ∨ c = 15 ∨ c = 16 ∨ c = 17 ∨ c = 18 ∨ c = 19 ∨ c = 20 ∨ c = 21 ∨ c = 22 ∨ c = 23 := by omega
    rcases hh with rfl | rfl | rfl | rfl | rfl | rfl | rfl | rfl | rfl | rfl | rfl | rfl | rfl | rfl | rfl | rfl | rfl | rfl | rfl | rfl | rfl | rfl | rfl | rfl <;> exact ⟨rfl, rfl⟩
  have := hc c h
  rwa [Array.getElem?_toList, Array.getElem?_toList] at this
theorem near_mul {y wd : Int} (h0 : 0 ≤ y) (h1 : y ≤ 4) (h2 : 1 ≤ wd) (h3 : wd ≤ 64) : 0 ≤ y * wd ∧ y * wd ≤ 256 :=
  mul_bd0 h0 h1 (by omega) h3

set_option maxHeartbeats 2000000 in
theorem near_c {w : World} (hP : Pts w) (c wd : Int) : Calls Tryd.prog 8 [.int .i64 c, .int .i64 wd].toArray w (Ret fun r w' => r = .int .i64 (nearI c wd) ∧ Mod none' w w') := by
  refine F_sound c8 (by simp [fc8]) ?_
  simp [fc8, s8]
  by_cases hb : nearBad c wd = true
  · have hv : nearI c wd = 0 := by rw [nearI, if_pos hb]
    have hb' : ((c < 1 ∨ 1048 < c) ∨ wd < 1) ∨ 64 < wd := by simpa [nearBad] using hb
    rw [hv]
    refine ite_r (t := true) (by simp; omega) (fun _ => ?_) (fun h => by cases h)
    simp [Mod.refl]
  · obtain ⟨h1, h2⟩ := nearBad_no hb
    refine ite_r (t := false) (by simp; omega) (fun h => by cases h) (fun _ => ?_)
    simp
    by_cases h24 : 24 < c
    · have hv : nearI c wd = c - 24 := by rw [nearI, if_neg hb, if_pos h24]
      rw [hv]
      refine ite_r (t := true) (by simp [h24]) (fun _ => ?_) (fun h => by cases h)
      simp [Mod.refl]
      exact wI (by omega) (by omega)
    · have hv : nearI c wd = max (ptY (c - 1).toNat * wd + ptX (c - 1).toNat) 1 := by rw [nearI, if_neg hb, if_neg h24]
      rw [hv]
      obtain ⟨n, hn⟩ : ∃ n : Nat, c - 1 = n := ⟨(c - 1).toNat, by omega⟩
      have wc : IntKind.i64.wrap (c - 1) = (n : Int) := by rw [wI (by omega) (by omega)]; omega
      obtain ⟨c0, c1⟩ := hP.drew n (by omega)
      simp only [cell_drew] at c0 c1
      obtain ⟨hx, hy⟩ := pt_bd n (by omega)
      rw [hn, Int.toNat_natCast]
      generalize ptX n = x at *
      generalize ptY n = y at *
      have hm := near_mul hy.1 hy.2 h2.1 h2.2
      have w1 : IntKind.i64.wrap (y * wd) = y * wd := wI (by omega) (by omega)
      have w2 : IntKind.i64.wrap (y * wd + x) = y * wd + x := wI (by omega) (by omega)
      refine ite_r (t := false) (by simp [h24]) (fun h => by cases h) (fun _ => ?_)
      simp [wc, c0, c1, w1, w2]
      refine ⟨by omega, ?_, (Mod.refl _ _).drew⟩
      omega

set_option maxHeartbeats 2000000 in
theorem near2_c {w : World} (c wd : Int) : Calls Tryd.prog 9 [.int .i64 c, .int .i64 wd].toArray w (Ret fun r w' => r = .int .i64 (nearI c wd) ∧ Mod none' w w') := by
  refine F_sound c9 (by simp [fc9]) ?_
  simp [fc9, s9]
  refine callp (side2_c wd) (by simp) ?_
  by_cases hb : nearBad c wd = true
  · have hv : nearI c wd = 0 := by rw [nearI, if_pos hb]
    have hb' : ((c < 1 ∨ 1048 < c) ∨ wd < 1) ∨ 64 < wd := by simpa [nearBad] using hb
    rw [hv]
    simp
    refine ite_r (t := true) (by simp; omega) (fun _ => ?_) (fun h => by cases h)
    simp [Mod.refl]
  · obtain ⟨h1, h2⟩ := nearBad_no hb
    simp
    refine ite_r (t := false) (by simp; omega) (fun h => by cases h) (fun _ => ?_)
    simp
    by_cases h24 : 24 < c
    · have hv : nearI c wd = c - 24 := by rw [nearI, if_neg hb, if_pos h24]
      rw [hv]
      refine ite_r (t := true) (by simp [h24]) (fun _ => ?_) (fun h => by cases h)
      simp [Mod.refl]
      exact wI (by omega) (by omega)
    · have hv : nearI c wd = max (ptY (c - 1).toNat * wd + ptX (c - 1).toNat) 1 := by rw [nearI, if_neg hb, if_neg h24]
      rw [hv]
      obtain ⟨n, hn⟩ : ∃ n : Nat, c - 1 = n := ⟨(c - 1).toNat, by omega⟩
      have wc : IntKind.i64.wrap (c - 1) = (n : Int) := by rw [wI (by omega) (by omega)]; omega
      obtain ⟨hx, hy⟩ := pt_bd n (by omega)
      obtain ⟨g0, g1⟩ := tabP_get n (by omega)
      rw [hn, Int.toNat_natCast]
      refine ite_r (t := false) (by simp [h24]) (fun h => by cases h) (fun _ => ?_)
      simp [putAt, Value.cells]
      obtain ⟨i48, hi48, z48, hz48, hs48⟩ : ∃ i, Tryd.prog.info? 43 = some i ∧ ∃ z, i.zero = some z ∧ z.cells.size = 48 := ⟨_, rfl, _, rfl, by decide⟩
      refine alloc_h (Hp.nil w) hi48 hz48 ?_
      intro b w1 H M1
      refine ⟨.inl rfl, ?_⟩
      refine stAll_h 0 H rfl (v := .agg tabP) rfl (by kernel_rfl) rfl hs48 (by simp [Value.cells, tabP]) ?_
      intro w2 H
      refine ⟨.inl rfl, ?_⟩
      replace H := H.drew
      have c0 : w2.cell? ⟨b, n * 2, none⟩ = some (.int .i64 (ptX n)) := by have := H.blk 0 rfl (n * 2); rw [cell_drew] at this; rw [this]; exact g0
      have c1 : w2.cell? ⟨b, n * 2 + 1, none⟩ = some (.int .i64 (ptY n)) := by have := H.blk 0 rfl (n * 2 + 1); rw [cell_drew] at this; rw [this]; exact g1
      generalize ptX n = x at *
      generalize ptY n = y at *
      have hm := near_mul hy.1 hy.2 h2.1 h2.2
      have w1 : IntKind.i64.wrap (y * wd) = y * wd := wI (by omega) (by omega)
      have w2 : IntKind.i64.wrap (y * wd + x) = y * wd + x := wI (by omega) (by omega)
      simp [wc, c0, c1, w1, w2]
      refine ⟨by omega, ?_, H.mod⟩
      omega

def codeF (d wd : Int) : Nat → Nat → Int
  | 0, _ => d + 24
  | f + 1, c => if nearI c wd = d then c else codeF d wd f (c + 1)
def codeBad (d wd : Int) : Bool := decide (d < 1) || decide (1024 < d) || decide (wd < 1) || decide (64 < wd)
def codeI (d wd : Int) : Int := if codeBad d wd = true then 0 else codeF d wd 24 1
theorem codeBad_no {d wd : Int} (h : ¬ codeBad d wd = true) : (1 ≤ d ∧ d ≤ 1024) ∧ 1 ≤ wd ∧ wd ≤ 64 := by
  simp [codeBad] at h; omega
theorem near_codeF {d wd : Int} (hd : 1 ≤ d ∧ d ≤ 1024) (hw : 1 ≤ wd ∧ wd ≤ 64) : ∀ f c, nearI (codeF d wd f c) wd = d
  | 0, c => by
    have hb : ¬ nearBad (d + 24) wd = true := by simp [nearBad]; omega
    rw [codeF, nearI, if_neg hb, if_pos (by omega)]
    omega
  | f + 1, c => by
    rw [codeF]
    split
    · rename_i h; exact h
    · exact near_codeF hd hw f (c + 1)
theorem near_code {d wd : Int} (hd : 1 ≤ d ∧ d ≤ 1024) (hw : 1 ≤ wd ∧ wd ≤ 64) : nearI (codeI d wd) wd = d := by
  have hb : ¬ codeBad d wd = true := by simp [codeBad]; omega
  rw [codeI, if_neg hb]
  exact near_codeF hd hw 24 1

set_option maxHeartbeats 2000000 in
theorem code_c {w : World} (hP : Pts w) (d wd : Int) : Calls Tryd.prog 10 [.int .i64 d, .int .i64 wd].toArray w (Ret fun r w' => r = .int .i64 (codeI d wd) ∧ Mod none' w w') := by
  refine F_sound c10 (by simp [fc10]) ?_
  simp [fc10, s10]
  by_cases hb : codeBad d wd = true
  · have hv : codeI d wd = 0 := by rw [codeI, if_pos hb]
    have hb' : ((d < 1 ∨ 1024 < d) ∨ wd < 1) ∨ 64 < wd := by simpa [codeBad] using hb
    rw [hv]
    refine ite_r (t := true) (by simp; omega) (fun _ => ?_) (fun h => by cases h)
    simp [Mod.refl]
  · obtain ⟨h1, h2⟩ := codeBad_no hb
    have hv : codeI d wd = codeF d wd 24 1 := by rw [codeI, if_neg hb]
    rw [hv]
    obtain ⟨cf, hcf⟩ : ∃ cf, cf = codeF d wd 24 1 := ⟨_, rfl⟩
    rw [← hcf]
    refine ite_r (t := false) (by simp; omega) (fun h => by cases h) (fun _ => ?_)
    simp
    refine for_r 24 (fun i env' w' => env' 0 = .int .i64 d ∧ env' 1 = .int .i64 wd ∧ env' 5 = .int .i64 ((i : Int) + 1) ∧ cf = codeF d wd (24 - i) (i + 1) ∧ Mod none' w w') ?_ ?_ ?_
    · simp [Mod.refl, hcf]
    · rintro i env w1 hi ⟨e0, e1, e5, hc, M1⟩
      have wi : IntKind.i64.wrap ((i : Int) + 1 + 1) = (i : Int) + 1 + 1 := wI (by omega) (by omega)
      simp [e5]
      refine ite_r (t := true) (by simp; omega) (fun _ => ?_) (fun h => by cases h)
      simp [wp_blk]
      refine callm (near_c (hP.at M1) ((i : Int) + 1) wd) (by simp [e1, e5]) ?_
      intro w2 M2
      obtain ⟨m, hm⟩ : ∃ m, 24 - i = m + 1 := ⟨23 - i, by omega⟩
      rw [hm, codeF] at hc
      have ec : (((i + 1 : Nat) : Int)) = (i : Int) + 1 := by omega
      rw [ec] at hc
      by_cases hn : nearI ((i : Int) + 1) wd = d
      · rw [if_pos hn] at hc
        simp [e0]
        refine ite_r (t := true) (by simp [hn]) (fun _ => ?_) (fun h => by cases h)
        simp [e5, hc]
        exact M1.tr M2
      · rw [if_neg hn] at hc
        simp [e0]
        refine ite_r (t := false) (by simp [hn]) (fun h => by cases h) (fun _ => ?_)
        simp [e0, e1, e5, wi]
        rw [show 23 - i = m by omega]
        exact ⟨hc, M1.tr M2⟩
    · rintro env w1 ⟨e0, e1, e5, hc, M1⟩
      rw [Nat.sub_self, codeF] at hc
      simp [e5]
      refine ite_r (t := false) (by simp) (fun h => by cases h) (fun _ => ?_)
      simp [e0, hc]
      exact ⟨wI (by omega) (by omega), M1⟩

set_option maxHeartbeats 2000000 in
theorem code2_c {w : World} (d wd : Int) : Calls Tryd.prog 11 [.int .i64 d, .int .i64 wd].toArray w (Ret fun r w' => r = .int .i64 (codeI d wd) ∧ Mod none' w w') := by
  refine F_sound c11 (by simp [fc11]) ?_
  simp [fc11, s11]
  by_cases hd : d < 1 ∨ 1024 < d
  · have hv : codeI d wd = 0 := by rw [codeI, if_pos (by simp [codeBad]; omega)]
    rw [hv]
    have hdd : (decide (d < 1) || decide (1024 < d)) = true := by simpa using hd
    rw [hdd]
    refine ifg_r (t := true) (by simp) (fun h => by cases h) (fun _ => ?_)
    simp
    refine ite_r (t := true) (by simp) (fun _ => ?_) (fun h => by cases h)
    simp [Mod.refl]
  have hdd : (decide (d < 1) || decide (1024 < d)) = false := by simpa using hd
  rw [hdd]
  refine ifg_r (t := false) (by simp) (fun _ => ?_) (fun h => (h rfl).elim)
  refine callp (side2_c wd) (by simp) ?_
  by_cases hb : codeBad d wd = true
  · have hv : codeI d wd = 0 := by rw [codeI, if_pos hb]
    have hb' : ((d < 1 ∨ 1024 < d) ∨ wd < 1) ∨ 64 < wd := by simpa [codeBad] using hb
    rw [hv]
    simp
    refine ite_r (t := true) (by simp; omega) (fun _ => ?_) (fun h => by cases h)
    simp [Mod.refl]
  · obtain ⟨h1, h2⟩ := codeBad_no hb
    have hv : codeI d wd = codeF d wd 24 1 := by rw [codeI, if_neg hb]
    rw [hv]
    obtain ⟨cf, hcf⟩ : ∃ cf, cf = codeF d wd 24 1 := ⟨_, rfl⟩
    rw [← hcf]
    simp
    refine ite_r (t := false) (by simp; omega) (fun h => by cases h) (fun _ => ?_)
    simp
    refine for_r 24 (fun i env' w' => env' 0 = .int .i64 d ∧ env' 1 = .int .i64 wd ∧ env' 5 = .int .i64 ((i : Int) + 1) ∧ cf = codeF d wd (24 - i) (i + 1) ∧ Mod none' w w') ?_ ?_ ?_
    · simp [Mod.refl, hcf]
    · rintro i env w1 hi ⟨e0, e1, e5, hc, M1⟩
      have wi : IntKind.i64.wrap ((i : Int) + 1 + 1) = (i : Int) + 1 + 1 := wI (by omega) (by omega)
      simp [e5]
      refine ite_r (t := true) (by simp; omega) (fun _ => ?_) (fun h => by cases h)
      simp [wp_blk]
      refine callm (near2_c ((i : Int) + 1) wd) (by simp [e1, e5]) ?_
      intro w2 M2
      obtain ⟨m, hm⟩ : ∃ m, 24 - i = m + 1 := ⟨23 - i, by omega⟩
      rw [hm, codeF] at hc
      have ec : (((i + 1 : Nat) : Int)) = (i : Int) + 1 := by omega
      rw [ec] at hc
      by_cases hn : nearI ((i : Int) + 1) wd = d
      · rw [if_pos hn] at hc
        simp [e0]
        refine ite_r (t := true) (by simp [hn]) (fun _ => ?_) (fun h => by cases h)
        simp [e5, hc]
        exact M1.tr M2
      · rw [if_neg hn] at hc
        simp [e0]
        refine ite_r (t := false) (by simp [hn]) (fun h => by cases h) (fun _ => ?_)
        simp [e0, e1, e5, wi]
        rw [show 23 - i = m by omega]
        exact ⟨hc, M1.tr M2⟩
    · rintro env w1 ⟨e0, e1, e5, hc, M1⟩
      rw [Nat.sub_self, codeF] at hc
      simp [e5]
      refine ite_r (t := false) (by simp) (fun h => by cases h) (fun _ => ?_)
      simp [e0, hc]
      exact ⟨wI (by omega) (by omega), M1⟩

end Go.Proofs.YtfanamibkgkaiaaDoor.VG
