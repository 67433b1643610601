/-
  Words as shares: no word begins another one (and what goes with it: parts Qn Qo Qp).
-/
import Derived.Test.YtgjnfajdejkkjaaQl

/-! ## Words as shares: no word begins another one. -/
namespace Go.Proofs.Ytgjnfajdejkkjaa.VG
open Go
set_option linter.unusedSimpArgs false
set_option linter.unusedVariables false
set_option maxRecDepth 20000

def lnN (l : List Int) (j : Nat) : Nat := (gi l (gnn (rk l) j)).toNat
/-- The shares of the first words. -/
def shS (l : List Int) : Nat → Nat
  | 0 => 0
  | j + 1 => shS l j + 2 ^ (24 - lnN l j)
theorem lnN_bd {l : List Int} {j : Nat} (h : j < (rk l).length) : 1 ≤ lnN l j ∧ lnN l j ≤ 24 ∧ gi l (gnn (rk l) j) = (lnN l j : Int) := by
  obtain ⟨_, a, b⟩ := rk_lt h
  unfold lnN
  omega
theorem pow24 (n : Nat) : 2 ^ (24 - n) ≤ 16777216 := by
  have : 2 ^ (24 - n) ≤ 2 ^ 24 := Nat.pow_le_pow_right (by omega) (by omega)
  omega
theorem shS_le (l : List Int) : ∀ j, shS l j ≤ 16777216 * j
  | 0 => by simp [shS]
  | j + 1 => by
    have := shS_le l j
    have := pow24 (lnN l j)
    unfold shS; omega
theorem shS_mono (l : List Int) {i : Nat} : ∀ {j : Nat}, i < j → shS l i + 2 ^ (24 - lnN l i) ≤ shS l j
  | 0, h => by omega
  | j + 1, h => by
    rcases Nat.lt_or_ge i j with hj | hj
    · have h1 := shS_mono l hj
      have h2 := Nat.two_pow_pos (24 - lnN l j)
      show _ ≤ shS l j + 2 ^ (24 - lnN l j)
      omega
    · obtain rfl : i = j := by omega
      exact Nat.le_refl _
theorem lnN_mono {l : List Int} {i j : Nat} (hij : i < j) (h : j < (rk l).length) : lnN l i ≤ lnN l j := by
  have := rk_mono hij h
  unfold lnN; omega

theorem word_share {l : List Int} (hl : l.length ≤ 1024) : ∀ j, j < (rk l).length → ∃ c : Nat, (cdN l (j + 1)).2.1 = c ∧ c * 2 ^ (24 - lnN l j) = shS l j
  | 0, h => by
    refine ⟨0, ?_, by simp [shS]⟩
    rw [cdN_snoc h]
    rfl
  | j + 1, h => by
    obtain ⟨c, hc, hs⟩ := word_share hl j (by omega)
    obtain ⟨a1, a2, a3⟩ := lnN_bd (l := l) (j := j) (by omega)
    obtain ⟨b1, b2, b3⟩ := lnN_bd h
    have hm := lnN_mono (l := l) (i := j) (j := j + 1) (by omega) h
    have hb := cdN_before (l := l) (i := j) (by omega)
    have hpos := Nat.two_pow_pos (24 - lnN l j)
    have hle := shS_le l (j + 1)
    have hrl := rk_le l
    have hsum : (c + 1) * 2 ^ (lnN l (j + 1) - lnN l j) * 2 ^ (24 - lnN l (j + 1)) = shS l (j + 1) := by
      rw [Nat.mul_assoc, ← Nat.pow_add, show lnN l (j + 1) - lnN l j + (24 - lnN l (j + 1)) = 24 - lnN l j by omega, Nat.add_mul, hs, Nat.one_mul]
      rfl
    have hpos2 := Nat.two_pow_pos (24 - lnN l (j + 1))
    have hbig : (c + 1) * 2 ^ (lnN l (j + 1) - lnN l j) ≤ shS l (j + 1) := by
      rw [← hsum]
      exact Nat.le_mul_of_pos_right _ hpos2
    have hc1 : c + 1 ≤ (c + 1) * 2 ^ (lnN l (j + 1) - lnN l j) := Nat.le_mul_of_pos_right _ (Nat.two_pow_pos _)
    refine ⟨(c + 1) * 2 ^ (lnN l (j + 1) - lnN l j), ?_, hsum⟩
    have hst : (cdN l (j + 1 + 1)).2.1 = (stepC l (cdN l (j + 1)) (gnn (rk l) (j + 1))).2.1 := by rw [cdN_snoc h]
    rw [hst]
    unfold stepC
    simp only
    rw [hb, if_pos (by omega), hc, a3, b3]
    generalize hq : (c + 1) * 2 ^ (lnN l (j + 1) - lnN l j) = q at *
    have w1 : IntKind.u64.wrap ((c : Int) + 1) = ((c + 1 : Nat) : Int) := by rw [wU (by omega) (by omega)]; omega
    rw [w1, show (lnN l (j + 1) : Int) - lnN l j = ((lnN l (j + 1) - lnN l j : Nat) : Int) by omega, shl_nat _ _ _ (by simp only [IntKind.bits]; omega), hq]
    exact wU (by omega) (by omega)


/-- A word, once set, stays. -/
theorem word_stays {l : List Int} {j : Nat} (hj : j < (rk l).length) : ∀ m, j < m → m ≤ (rk l).length → gi (cdN l m).1 (gnn (rk l) j) = (cdN l (j + 1)).2.1
  | 0, h, _ => by omega
  | m + 1, h, hm => by
    rcases Nat.lt_or_ge j m with hlt | hge
    · rw [cdN_snoc (by omega)]
      have hne : gnn (rk l) m ≠ gnn (rk l) j := by
        have hnd : (rk l).Pairwise (· ≠ ·) := rkN_nodup l 24
        intro e
        rw [← gnn_get (r := rk l) (i := m) (by omega), ← gnn_get (r := rk l) (i := j) hj] at e
        exact List.pairwise_iff_getElem.1 hnd j m hj (by omega) hlt e.symm
      show gi ((cdN l m).1.set _ _) _ = _
      rw [gi_set_ne _ _ _ _ hne]
      exact word_stays hj m hlt (by omega)
    · obtain rfl : j = m := by omega
      exact cdN_word hj
theorem word_zero {l : List Int} {s : Nat} (hs : s ∉ rk l) : ∀ m, m ≤ (rk l).length → gi (cdN l m).1 s = 0
  | 0, _ => by
    show gi (List.replicate l.length 0) s = 0
    unfold gi
    rw [List.getD_eq_getElem?_getD, List.getElem?_replicate]
    split <;> rfl
  | m + 1, h => by
    rw [cdN_snoc (by omega)]
    show gi ((cdN l m).1.set _ _) _ = _
    rw [gi_set_ne _ _ _ _ (fun e => hs (by rw [← e]; exact gnn_mem (by omega)))]
    exact word_zero hs m (by omega)
theorem word_at {l : List Int} (hl : l.length ≤ 1024) {j : Nat} (h : j < (rk l).length) : ∃ c : Nat, gi (cdW l) (gnn (rk l) j) = c ∧ c * 2 ^ (24 - lnN l j) = shS l j := by
  obtain ⟨c, hc, hs⟩ := word_share hl j h
  exact ⟨c, by rw [← hc]; exact word_stays h _ h (Nat.le_refl _), hs⟩

/-! ### All shares together -/
def sumG (g : Nat → Int) (r : List Nat) : Int := (r.map g).sum
theorem sumG_app (g : Nat → Int) (r s : List Nat) : sumG g (r ++ s) = sumG g r + sumG g s := by simp [sumG]
def hatG (l : List Int) (g : Nat → Int) (k i : Nat) : Int := sumG (fun j => if 1 ≤ gi l j ∧ gi l j ≤ k then g j else 0) (List.range i)
theorem filN_sum (l : List Int) (g : Nat → Int) (n : Nat) : ∀ i, sumG g (filN l n i) = sumG (fun j => if gi l j = ((n + 1 : Nat) : Int) then g j else 0) (List.range i)
  | 0 => by simp [filN, sumG]
  | i + 1 => by
    rw [filN_snoc, sumG_app, filN_sum l g n i, List.range_succ, sumG_app]
    by_cases h : gi l i = ((n + 1 : Nat) : Int)
    · rw [if_pos h]
      simp only [sumG, List.map_cons, List.map_nil, List.sum_cons, List.sum_nil, if_pos h]
    · rw [if_neg h]
      simp only [sumG, List.map_cons, List.map_nil, List.sum_cons, List.sum_nil, if_neg h]
      omega
theorem sumG_add (f g h : Nat → Int) : ∀ r : List Nat, (∀ i ∈ r, f i + g i = h i) → sumG f r + sumG g r = sumG h r
  | [], _ => by simp [sumG]
  | a :: r, hh => by
    have ih := sumG_add f g h r (fun i hi => hh i (by simp [hi]))
    have h1 := hh a (by simp)
    simp only [sumG, List.map_cons, List.sum_cons] at *
    omega
theorem rkN_sum (l : List Int) (g : Nat → Int) : ∀ k, sumG g (rkN l k) = hatG l g k l.length
  | 0 => by
    have : ∀ r : List Nat, sumG (fun j => if 1 ≤ gi l j ∧ gi l j ≤ ((0 : Nat) : Int) then g j else 0) r = 0 := by
      intro r
      induction r with
      | nil => rfl
      | cons a r ih =>
        simp only [sumG, List.map_cons, List.sum_cons] at *
        rw [ih, if_neg (by omega)]; rfl
    unfold hatG
    rw [this]
    rfl
  | k + 1 => by
    rw [rkN_snoc, sumG_app, rkN_sum l g k, filN_sum]
    unfold hatG
    refine sumG_add _ _ _ _ fun i _ => ?_
    by_cases h1 : 1 ≤ gi l i ∧ gi l i ≤ (k : Int)
    · rw [if_pos h1, if_neg (by omega), if_pos (by omega)]; omega
    · rw [if_neg h1]
      by_cases h2 : gi l i = ((k + 1 : Nat) : Int)
      · rw [if_pos h2, if_pos (by omega)]; omega
      · rw [if_neg h2, if_neg (by omega)]; rfl
theorem suN_range (l : List Int) : suN l = sumG (fun j => part24 (gi l j)) (List.range l.length) := by
  have h : ∀ i, i ≤ l.length → suN (l.take i) = sumG (fun j => part24 (gi l j)) (List.range i) := by
    intro i
    induction i with
    | zero => intro _; simp [suN, sumG]
    | succ i ih =>
      intro hi
      rw [gi_take_snoc l i (by omega), suN_snoc, ih (by omega), List.range_succ, sumG_app]
      simp [sumG]
  have := h l.length (Nat.le_refl _)
  rwa [List.take_length] at this
theorem shS_sum (l : List Int) : ∀ m, m ≤ (rk l).length → (shS l m : Int) = sumG (fun j => part24 (gi l j)) ((rk l).take m)
  | 0, _ => by simp [shS, sumG]
  | m + 1, h => by
    rw [gnn_take (by omega), sumG_app, ← shS_sum l m (by omega)]
    obtain ⟨a, b, c⟩ := lnN_bd (l := l) (j := m) (by omega)
    show ((shS l m + 2 ^ (24 - lnN l m) : Nat) : Int) = _
    simp only [sumG, List.map_cons, List.map_nil, List.sum_cons, List.sum_nil]
    rw [c]
    unfold part24 p2
    rw [if_pos (by omega), show (24 - (lnN l m : Int)).toNat = 24 - lnN l m by omega]
    omega
theorem shS_all {l : List Int} (h : l.all okLen = true) : (shS l (rk l).length : Int) = suN l := by
  rw [shS_sum l _ (Nat.le_refl _), List.take_length]
  unfold rk
  rw [rkN_sum, suN_range]
  unfold hatG sumG
  congr 1
  refine List.map_congr_left fun j hj => ?_
  have hj' := List.mem_range.1 hj
  have := okLen_iff.1 (List.all_eq_true.1 h _ (gi_mem l j hj'))
  by_cases h0 : 1 ≤ gi l j
  · rw [if_pos (by omega)]
  · rw [if_neg (by omega)]
    unfold part24
    rw [if_neg (by omega)]

end Go.Proofs.Ytgjnfajdejkkjaa.VG

/-! ## The law that no word begins another one. -/
namespace Go.Proofs.Ytgjnfajdejkkjaa.VG
open Go
set_option linter.unusedSimpArgs false
set_option linter.unusedVariables false
set_option maxRecDepth 20000

theorem suN_us : ∀ l : List Int, suN l ≤ 8388608 * usN l
  | [] => by simp [suN, usN]
  | x :: r => by
    have ih := suN_us r
    have e : suN (x :: r) = part24 x + suN r := by simp [suN]
    have hb := part24_bd x
    rw [e]
    by_cases h : 0 < x
    · have : usN (x :: r) = usN r + 1 := by simp [usN, h]
      rw [this]; omega
    · have h1 : usN (x :: r) = usN r := by simp [usN, h]
      have h2 : part24 x = 0 := by unfold part24; rw [if_neg h]
      rw [h1, h2]; omega
theorem full_parts {l : List Int} (h : fullB l = true) : l.length ≤ 1024 ∧ l.all okLen = true ∧ suN l ≤ 16777216 := by
  unfold fullB at h
  simp only [Bool.and_eq_true, decide_eq_true_eq] at h
  refine ⟨h.1.1.2, h.1.2, ?_⟩
  have h2 := h.2
  by_cases hu : usN l = 1
  · have := suN_us l
    omega
  · rw [if_neg hu] at h2
    simp at h2
    omega
theorem pos_of {l : List Int} {i : Nat} (hi : i < l.length) (h1 : 1 ≤ gi l i) (h2 : gi l i ≤ 24) : ∃ j, j < (rk l).length ∧ gnn (rk l) j = i := by
  have hm : i ∈ rk l := rkN_mem.2 ⟨hi, (gi l i).toNat - 1, by omega, by omega⟩
  obtain ⟨j, hj, e⟩ := List.mem_iff_getElem.1 hm
  exact ⟨j, hj, by rw [← gnn_get hj]; exact e⟩
theorem word_fits {l : List Int} (hf : fullB l = true) {i : Nat} (hi : i < l.length) : ∃ c : Nat, gi (cdW l) i = c ∧ c < 2 ^ (gi l i).toNat := by
  obtain ⟨hl, hall, hs⟩ := full_parts hf
  have hok := okLen_iff.1 (List.all_eq_true.1 hall _ (gi_mem l i hi))
  by_cases h0 : 1 ≤ gi l i
  · obtain ⟨j, hj, rfl⟩ := pos_of hi h0 hok.2
    obtain ⟨c, hc, hsh⟩ := word_at hl hj
    obtain ⟨a1, a2, a3⟩ := lnN_bd hj
    refine ⟨c, hc, ?_⟩
    rw [a3, Int.toNat_natCast]
    have hm := shS_mono l hj
    have ht := shS_all hall
    have hle : (c + 1) * 2 ^ (24 - lnN l j) ≤ 2 ^ lnN l j * 2 ^ (24 - lnN l j) := by
      rw [← Nat.pow_add, show lnN l j + (24 - lnN l j) = 24 by omega, Nat.add_mul, hsh, Nat.one_mul]
      have : (2 : Nat) ^ 24 = 16777216 := rfl
      omega
    exact Nat.le_of_mul_le_mul_right hle (Nat.two_pow_pos _)
  · refine ⟨0, ?_, Nat.two_pow_pos _⟩
    refine word_zero (fun hm => ?_) _ (Nat.le_refl _)
    obtain ⟨_, n, _, e⟩ := rkN_mem.1 hm
    omega
theorem words_apart {l : List Int} (hf : fullB l = true) {i k : Nat} (hi : i < l.length) (hk : k < l.length) (hne : i ≠ k) (h0 : 0 < gi l i) (hle : gi l i ≤ gi l k) {c d : Nat} (hc : gi (cdW l) i = c) (hd : gi (cdW l) k = d) :
    d / 2 ^ (gi l k - gi l i).toNat ≠ c := by
  obtain ⟨hl, hall, hs⟩ := full_parts hf
  have ok1 := okLen_iff.1 (List.all_eq_true.1 hall _ (gi_mem l i hi))
  have ok2 := okLen_iff.1 (List.all_eq_true.1 hall _ (gi_mem l k hk))
  obtain ⟨a, ha, rfl⟩ := pos_of hi (by omega) ok1.2
  obtain ⟨b, hb, rfl⟩ := pos_of hk (by omega) ok2.2
  obtain ⟨c', hc', sc⟩ := word_at hl ha
  obtain ⟨d', hd', sd⟩ := word_at hl hb
  obtain rfl : c' = c := by omega
  obtain rfl : d' = d := by omega
  obtain ⟨a1, a2, a3⟩ := lnN_bd ha
  obtain ⟨b1, b2, b3⟩ := lnN_bd hb
  rw [a3, b3] at hle ⊢
  rw [show ((lnN l b : Int) - lnN l a).toNat = lnN l b - lnN l a by omega]
  intro e
  rcases Nat.lt_trichotomy a b with h | h | h
  · have hm := shS_mono l h
    have hlt : d' < (c' + 1) * 2 ^ (lnN l b - lnN l a) := by
      rw [← e]
      have := Nat.lt_div_mul_add (a := d') (Nat.two_pow_pos (lnN l b - lnN l a))
      rw [Nat.add_mul, Nat.one_mul]
      exact this
    have h2 : d' * 2 ^ (24 - lnN l b) < (c' + 1) * 2 ^ (lnN l b - lnN l a) * 2 ^ (24 - lnN l b) := Nat.mul_lt_mul_of_pos_right hlt (Nat.two_pow_pos _)
    rw [Nat.mul_assoc, ← Nat.pow_add, show lnN l b - lnN l a + (24 - lnN l b) = 24 - lnN l a by omega, sd, Nat.add_mul, sc, Nat.one_mul] at h2
    omega
  · subst h
    exact hne rfl
  · have hm := shS_mono l h
    have hmo := lnN_mono h ha
    have heq : lnN l a = lnN l b := by omega
    rw [heq, Nat.sub_self, Nat.pow_zero, Nat.div_one] at e
    subst e
    rw [heq] at sc
    have := Nat.two_pow_pos (24 - lnN l b)
    omega

end Go.Proofs.Ytgjnfajdejkkjaa.VG

/-! ## The law that no word begins another one: its walk. -/
namespace Go.Proofs.Ytgjnfajdejkkjaa.VG
open Go
set_option linter.unusedSimpArgs false
set_option linter.unusedVariables false
set_option maxRecDepth 20000

set_option maxHeartbeats 8000000 in
theorem papart_law {F : Nat → Prop} {w : World} {v : Value} {l : List Int} (hr : Rd F w v l.length (intsV l)) (hlm : l.length ≤ maxLen) :
    Calls Try.prog 4 [v].toArray w (Ret fun r w' => r = .bool true ∧ Mod none' w w') := by
  refine F_sound c4 (by simp [fc4]) ?_
  obtain ⟨hS, hL⟩ := hr.sl
  simp [fc4, s4]
  refine callm known_c (by simp) ?_
  intro w1 M1
  have H := Hp.ofMod M1
  simp
  refine ite_r (t := false) (by simp) (fun h => by cases h) (fun _ => ?_)
  simp [hS, hL]
  by_cases hbig : l.length ≤ 60
  · refine ite_r (t := false) (by simp; omega) (fun h => by cases h) (fun _ => ?_)
    simp
    refine call_h (codes_c (hr.at H.mod) (by omega)) (by simp) ?_
    rintro r w2 ⟨vc, rfl, HC⟩
    replace H := H.join HC
    replace H : Hp w w2 [.own 33 1 vc (codesP l).length (wdsV (codesP l))] := H
    simp
    refine callp (full_c (hr.at H.mod) (by omega)) (by simp) ?_
    obtain ⟨cS, cL⟩ := (H.rd 0 rfl).sl
    by_cases hf : fullB l = true
    · have hcl : (cdW l).length = l.length := cdN_len l _
      have hall := (full_parts hf).2.1
      have hok : ∀ i, i < l.length → 0 ≤ gi l i ∧ gi l i ≤ 24 := fun i hi => okLen_iff.1 (List.all_eq_true.1 hall _ (gi_mem l i hi))
      unfold codesP at H cL
      rw [if_pos hf, hcl] at H cL
      simp [erP, hf]
      refine ite_r (t := false) (by simp) (fun h => by cases h) (fun _ => ?_)
      simp
      refine ite_r (t := false) (by simp) (fun h => by cases h) (fun _ => ?_)
      simp [cS, cL, hS, hL]
      refine ite_r (t := false) (by simp) (fun h => by cases h) (fun _ => ?_)
      simp
      refine for_r l.length (fun i env' w' => env' 0 = v ∧ env' 3 = vc ∧ env' 5 = .int .i64 i ∧ Hp w w' [.own 33 1 vc l.length (wdsV (cdW l))]) ?_ ?_ ?_
      · exact ⟨by simp, by simp, by simp, H⟩
      · rintro i env w3 hi ⟨e0, e3, e5, H⟩
        have wi : IntKind.i64.wrap ((i : Int) + 1) = ((i + 1 : Nat) : Int) := by rw [wI (by omega) (by omega)]; omega
        have HD := H.drew
        have ca := (hr.at HD.mod).gi i hi
        have pa := hr.some (by omega)
        have cc := rdW (HD.rd 0 rfl) i (by omega)
        have pc := rdW_ptr (H.rd 0 rfl) (by omega)
        obtain ⟨o0, o1⟩ := hok i hi
        obtain ⟨c, hc, hfit⟩ := word_fits hf hi
        obtain ⟨n, hn⟩ : ∃ n : Nat, gi l i = n := ⟨(gi l i).toNat, by omega⟩
        rw [hn, Int.toNat_natCast] at hfit
        have un : IntKind.u64.wrap (n : Int) = n := wU (by omega) (by omega)
        have s1 : shr .u64 (c : Int) (n : Int) = 0 := by rw [shr_nat _ _ _ (by simp only [IntKind.bits]; omega), Nat.div_eq_of_lt hfit]; rfl
        rw [hn] at ca
        rw [hc] at cc
        simp at ca cc
        simp [e0, e5, hS, hL]
        refine ite_r (t := true) (by simp [hi]) (fun _ => ?_) (fun h => by cases h)
        simp [wp_blk, wp_draw, e0, e3, e5, hS, hL, cS, cL, pa, pc, ca, cc, hi, un, s1]
        refine ite_r (t := false) (by simp) (fun h => by cases h) (fun _ => ?_)
        simp
        refine for_r l.length (fun k env' w' => env' 0 = v ∧ env' 3 = vc ∧ env' 5 = .int .i64 i ∧ env' 6 = .int .i64 k ∧ Hp w w' [.own 33 1 vc l.length (wdsV (cdW l))]) ?_ ?_ ?_
        · exact ⟨by simp [e0], by simp [e3], by simp [e5], by simp, HD⟩
        · rintro k env w4 hk ⟨e0, e3, e5, e6, H⟩
          have wk : IntKind.i64.wrap ((k : Int) + 1) = ((k + 1 : Nat) : Int) := by rw [wI (by omega) (by omega)]; omega
          have HD := H.drew
          have ca := (hr.at HD.mod).gi i hi
          have cb := (hr.at HD.mod).gi k hk
          have cc := rdW (HD.rd 0 rfl) i (by omega)
          have cd := rdW (HD.rd 0 rfl) k (by omega)
          obtain ⟨q0, q1⟩ := hok k hk
          obtain ⟨d, hd, _⟩ := word_fits hf hk
          obtain ⟨m, hm⟩ : ∃ m : Nat, gi l k = m := ⟨(gi l k).toNat, by omega⟩
          rw [hn] at ca
          rw [hm] at cb
          rw [hc] at cc
          rw [hd] at cd
          simp at ca cb cc cd
          simp [e0, e6, hS, hL]
          refine ite_r (t := true) (by simp [hk]) (fun _ => ?_) (fun h => by cases h)
          by_cases hne : i = k
          · simp [wp_blk, wp_draw, e0, e3, e5, e6, hS, hL, cS, cL, pa, pc, ca, cb, cc, cd, hi, hk, hne]
            refine ite_r (t := false) (by simp) (fun h => by cases h) (fun _ => ?_)
            simp [e0, e3, e5, e6, wk]
            exact ⟨by omega, HD⟩
          · by_cases hn0 : 0 < n
            · by_cases hle : n ≤ m
              · have hap := words_apart hf hi hk hne (by omega) (by omega) hc hd
                rw [hn, hm, show ((m : Int) - n).toNat = m - n by omega] at hap
                have ws : IntKind.i64.wrap ((m : Int) - n) = ((m - n : Nat) : Int) := by rw [wI (by omega) (by omega)]; omega
                have us : IntKind.u64.wrap ((m - n : Nat) : Int) = ((m - n : Nat) : Int) := wU (by omega) (by omega)
                have s2 : shr .u64 (d : Int) ((m - n : Nat) : Int) = ((d / 2 ^ (m - n) : Nat) : Int) := shr_nat _ _ _ (by simp only [IntKind.bits]; omega)
                generalize hz : d / 2 ^ (m - n) = z at *
                simp [wp_blk, wp_draw, e0, e3, e5, e6, hS, hL, cS, cL, pa, pc, ca, cb, cc, cd, hi, hk, hne, hn0, hle, ws, us, s2]
                refine ite_r (t := false) (by simp [hap]; omega) (fun h => by cases h) (fun _ => ?_)
                simp [e0, e3, e5, e6, wk]
                exact HD
              · simp [wp_blk, wp_draw, e0, e3, e5, e6, hS, hL, cS, cL, pa, pc, ca, cb, cc, cd, hi, hk, hne, hn0, hle]
                refine ite_r (t := false) (by simp) (fun h => by cases h) (fun _ => ?_)
                simp [e0, e3, e5, e6, wk]
                exact HD
            · simp [wp_blk, wp_draw, e0, e3, e5, e6, hS, hL, cS, cL, pa, pc, ca, cb, cc, cd, hi, hk, hne, hn0]
              refine ite_r (t := false) (by simp) (fun h => by cases h) (fun _ => ?_)
              simp [e0, e3, e5, e6, wk]
              exact HD
        · rintro env w4 ⟨e0, e3, e5, e6, H⟩
          simp [e0, e6, hS, hL]
          refine ite_r (t := false) (by simp) (fun h => by cases h) (fun _ => ?_)
          simp [e0, e3, e5, wi]
          exact H
      · rintro env w3 ⟨e0, e3, e5, H⟩
        simp [e0, e5, hS, hL]
        refine ite_r (t := false) (by simp) (fun h => by cases h) (fun _ => ?_)
        simp
        exact H.mod
    · have hcl : (codesP l).length = 0 := by unfold codesP; rw [if_neg hf]; rfl
      rw [hcl] at cL
      simp [erP, hf]
      refine ite_r (t := false) (by simp) (fun h => by cases h) (fun _ => ?_)
      simp
      refine ite_r (t := true) (by simp) (fun _ => ?_) (fun h => by cases h)
      simp [cS, cL]
      exact H.mod
  · refine ite_r (t := true) (by simp; omega) (fun _ => ?_) (fun h => by cases h)
    simp
    exact H.mod

end Go.Proofs.Ytgjnfajdejkkjaa.VG
