/-
  What the lengths of package-merge are: full, least, fewer bits for what is met more often.
-/
import Derived.Test.YtgjnfajdejkkjaaXc
import Derived.Test.YtgjnfajdejkkjaaQh
namespace Go.Proofs.Ytgjnfajdejkkjaa.VG
open Go
set_option linter.unusedSimpArgs false
set_option linter.unusedVariables false
set_option maxRecDepth 20000

/-! ### Sums over symbols -/
theorem sumI_perm {l m : List Int} (h : l.Perm m) : l.sum = m.sum := by
  induction h with
  | nil => rfl
  | cons x _ ih => rw [List.sum_cons, List.sum_cons, ih]
  | swap x y l => rw [List.sum_cons, List.sum_cons, List.sum_cons, List.sum_cons]; omega
  | trans _ _ i j => rw [i, j]
theorem sumZ_range (F : Nat → Int) : ∀ n, sumZ F n = ((List.range n).map F).sum
  | 0 => rfl
  | n + 1 => by rw [sumZ, sumZ_range F n, List.range_succ, List.map_append, List.sum_append]; simp
theorem sum_filter (F : Nat → Int) (p : Nat → Bool) : ∀ l : List Nat, (∀ x ∈ l, p x = false → F x = 0) → ((l.filter p).map F).sum = (l.map F).sum
  | [], _ => rfl
  | x :: l, h => by
    have ih := sum_filter F p l (fun y hy => h y (by simp [hy]))
    cases hp : p x with
    | true => rw [List.filter_cons_of_pos hp, List.map_cons, List.sum_cons, ih, List.map_cons, List.sum_cons]
    | false =>
      have := h x (by simp) hp
      rw [List.filter_cons_of_neg (by simp [hp]), ih, List.map_cons, List.sum_cons]; omega
theorem sum_list (F : Nat → Int) (l : List Nat) : (l.map F).sum = sumZ (fun r => F (gnn l r)) l.length := by
  rw [sumZ_range]
  congr 1
  apply List.ext_getElem?
  intro j
  rw [List.getElem?_map, List.getElem?_map]
  rcases Nat.lt_or_ge j l.length with h | h
  · rw [gnn_lt h, List.getElem?_range h]; rfl
  · rw [List.getElem?_eq_none h, List.getElem?_eq_none (by simpa using h)]; rfl
theorem sumZ_cast (f : Nat → Nat) : ∀ n, sumZ (fun i => (f i : Int)) n = (sumN f n : Int)
  | 0 => rfl
  | n + 1 => by rw [sumZ, sumZ_cast f n, sumN]; omega
theorem sumN_mul (x : Nat) (f : Nat → Nat) : ∀ n, sumN (fun i => x * f i) n = x * sumN f n
  | 0 => by simp [sumN]
  | n + 1 => by rw [sumN, sumN_mul x f n, sumN, Nat.mul_add]
theorem sumZ_one : ∀ n, sumZ (fun _ => 1) n = n
  | 0 => rfl
  | n + 1 => by rw [sumZ, sumZ_one n]; omega

/-! ### Coins by rank -/
/-- The symbols by rank. -/
def sg (freq : List Int) : List Nat := (cnT freq).map fun z => z.2.headD 0
theorem sg_coin (freq : List Int) : cnT freq = (sg freq).map (coin freq) := by
  unfold sg
  rw [List.map_map]
  have : ∀ z ∈ cnT freq, (coin freq ∘ fun z => z.2.headD 0) z = id z := fun z hz => by
    have := (cnT_perm freq).mem_iff.1 hz
    rw [List.mem_map] at this
    obtain ⟨k, _, rfl⟩ := this
    rfl
  rw [List.map_congr_left this, List.map_id]
theorem sg_perm (freq : List Int) : (sg freq).Perm (usd freq) := by
  have := (cnT_perm freq).map (fun z : Th => z.2.headD 0)
  rw [List.map_map] at this
  have e : (usd freq).map ((fun z : Th => z.2.headD 0) ∘ coin freq) = usd freq := by
    have : ∀ k ∈ usd freq, ((fun z : Th => z.2.headD 0) ∘ coin freq) k = id k := fun k _ => rfl
    rw [List.map_congr_left this, List.map_id]
  rwa [e] at this
theorem sg_len (freq : List Int) : (sg freq).length = (cnT freq).length := by unfold sg; rw [List.length_map]
theorem us_len (freq : List Int) : (cnT freq).length = (usd freq).length := by rw [← sg_len]; exact (sg_perm freq).length_eq
theorem sg_mem {freq : List Int} {s : Nat} : s ∈ sg freq ↔ s < freq.length ∧ 0 < gi freq s := (sg_perm freq).mem_iff.trans usd_mem
theorem sg_at {freq : List Int} {r : Nat} (h : r < (cnT freq).length) : gnn (sg freq) r < freq.length ∧ 0 < gi freq (gnn (sg freq) r) := sg_mem.1 (gnn_mem (by rw [sg_len]; exact h))
theorem sg_find {freq : List Int} {s : Nat} (h : s < freq.length) (h0 : 0 < gi freq s) : ∃ r, r < (cnT freq).length ∧ gnn (sg freq) r = s := by
  obtain ⟨r, hr, e⟩ := List.mem_iff_getElem.1 (sg_mem.2 ⟨h, h0⟩)
  rw [sg_len] at hr
  exact ⟨r, hr, by rw [← gnn_get (by rw [sg_len]; exact hr)]; exact e⟩
theorem sg_wt {freq : List Int} {r : Nat} (h : r < (cnT freq).length) : wt (cnT freq) r = gi freq (gnn (sg freq) r) := by
  unfold wt
  rw [sg_coin, List.map_map, List.getD_eq_getElem?_getD, List.getElem?_map, gnn_lt (by rw [sg_len]; exact h)]
  rfl
/-- A sum over the symbols is one over the ranks. -/
theorem sum_rank {freq : List Int} {F : Nat → Int} (h : ∀ s, s < freq.length → gi freq s ≤ 0 → F s = 0) : sumZ F freq.length = sumZ (fun r => F (gnn (sg freq) r)) (cnT freq).length := by
  rw [sumZ_range, ← sum_filter F (fun k => decide (0 < gi freq k)) _ (fun x hx hp => h x (List.mem_range.1 hx) (by simpa using hp))]
  show ((usd freq).map F).sum = _
  rw [← sumI_perm ((sg_perm freq).map F), sum_list, sg_len]
theorem sym_take (freq : List Int) (a : Nat) : symT ((cnT freq).take a) = (sg freq).take a := by
  rw [sg_coin, ← List.map_take]
  generalize (sg freq).take a = l
  induction l with
  | nil => rfl
  | cons x r ih =>
    unfold symT at *
    rw [List.map_cons, List.flatMap_cons, ih]
    rfl
theorem count_take {l : List Nat} (hn : l.Nodup) {r : Nat} (hr : r < l.length) (a : Nat) : (l.take a).count (gnn l r) = if r < a then 1 else 0 := by
  have hd : (l.take a).Nodup := hn.sublist (List.take_sublist _ _)
  split
  · rename_i h
    have h1 : gnn l r ∈ l.take a := by
      rw [List.mem_take_iff_getElem]
      exact ⟨r, by omega, gnn_get hr⟩
    have h2 := List.nodup_iff_count.1 hd (gnn l r)
    have h3 := List.count_pos_iff.2 h1
    omega
  · rename_i h
    rw [List.count_eq_zero]
    intro hm
    obtain ⟨i, h1, h2, e⟩ := take_ix hm
    have := List.pairwise_iff_getElem.1 hn i r (by omega) hr (by omega)
    rw [gnn_get h2, gnn_get hr] at this
    exact this e.symm
theorem sum_ind (r : Nat) : ∀ l : List Nat, (l.map fun a => if r < a then 1 else 0).sum = lnR l r
  | [] => rfl
  | a :: l => by rw [List.map_cons, List.sum_cons, sum_ind r l, lnR_cons]
theorem sum_zero : ∀ l : List Nat, (l.map fun _ => 0).sum = 0
  | [] => rfl
  | a :: l => by rw [List.map_cons, List.sum_cons, sum_zero l]

theorem cn_nn (freq : List Int) : ∀ z ∈ cnT freq, 0 ≤ z.1 := fun z hz => by
  have := (cnT_perm freq).mem_iff.1 hz
  rw [List.mem_map] at this
  obtain ⟨k, hk, rfl⟩ := this
  have := (usd_mem.1 hk).2
  show 0 ≤ gi freq k
  omega

theorem lnS_at {freq : List Int} {m : Nat} (h2 : 2 ≤ (usd freq).length) (hm : 1 ≤ m ∧ m ≤ 24) (hk : (usd freq).length ≤ 2 ^ m) {r : Nat} (hr : r < (cnT freq).length) : lnS freq m (gnn (sg freq) r) = lnC (cnT freq) (m - 1) r := by
  have hl := us_len freq
  have ht := row_enough (c := cnT freq) (by omega) (k := m - 1) (by rw [show m - 1 + 1 = m by omega]; omega)
  unfold lnS lnC
  rw [cnts_sym _ _ _ _ ht, ← sum_ind]
  congr 1
  refine List.map_congr_left fun a _ => ?_
  rw [sym_take]
  exact count_take ((sg_perm freq).nodup_iff.2 (usd_nodup freq)) (by rw [sg_len]; exact hr) a
theorem lnS_none {freq : List Int} {m : Nat} (h2 : 2 ≤ (usd freq).length) (hm : 1 ≤ m ∧ m ≤ 24) (hk : (usd freq).length ≤ 2 ^ m) {s : Nat} (hs : ¬ 0 < gi freq s) : lnS freq m s = 0 := by
  have hl := us_len freq
  have ht := row_enough (c := cnT freq) (by omega) (k := m - 1) (by rw [show m - 1 + 1 = m by omega]; omega)
  unfold lnS
  rw [cnts_sym _ _ _ _ ht, ← sum_zero (cnts (cnT freq) (m - 1) (2 * (cnT freq).length - 2))]
  congr 1
  refine List.map_congr_left fun a _ => ?_
  rw [sym_take, List.count_eq_zero]
  exact fun h => hs (sg_mem.1 (List.mem_of_mem_take h)).2
theorem pm_cn {freq : List Int} {m : Nat} (h2 : 2 ≤ (usd freq).length) (hm : 1 ≤ m ∧ m ≤ 24) (hk : (usd freq).length ≤ 2 ^ m) : (∀ r, r < (cnT freq).length → 1 ≤ lnC (cnT freq) (m - 1) r ∧ lnC (cnT freq) (m - 1) r ≤ m) ∧ sumN (fun r => 2 ^ (m - lnC (cnT freq) (m - 1) r)) (cnT freq).length = 2 ^ m ∧
    ∀ o : Nat → Nat, (∀ r, r < (cnT freq).length → o r ≤ m) → sumN (fun r => 2 ^ (m - o r)) (cnT freq).length = 2 ^ m → sumZ (fun r => wt (cnT freq) r * (lnC (cnT freq) (m - 1) r : Int)) (cnT freq).length ≤ sumZ (fun r => wt (cnT freq) r * (o r : Int)) (cnT freq).length := by
  have hl := us_len freq
  have := pm_all (cnT_asc freq) (cn_nn freq) (by omega) (k := m - 1) (by rw [show m - 1 + 1 = m by omega]; omega)
  rwa [show m - 1 + 1 = m by omega] at this
theorem len_at {freq : List Int} {m : Nat} (h2 : 2 ≤ (usd freq).length) (hm : 1 ≤ m ∧ m ≤ 24) (hk : (usd freq).length ≤ 2 ^ m) {s : Nat} (hs : s < freq.length) (h0 : 0 < gi freq s) : ∃ r, r < (cnT freq).length ∧ gnn (sg freq) r = s ∧ gi (lenP freq m) s = lnC (cnT freq) (m - 1) r ∧ 1 ≤ lnC (cnT freq) (m - 1) r ∧ lnC (cnT freq) (m - 1) r ≤ m ∧ wt (cnT freq) r = gi freq s := by
  obtain ⟨r, hr, rfl⟩ := sg_find hs h0
  obtain ⟨a, b⟩ := (pm_cn h2 hm hk).1 r hr
  have e := lnS_at h2 hm hk hr
  refine ⟨r, hr, rfl, ?_, a, b, sg_wt hr⟩
  rw [lenP_gi hs (by
    rw [e]; omega), e]
theorem len_none {freq : List Int} {m : Nat} (h2 : 2 ≤ (usd freq).length) (hm : 1 ≤ m ∧ m ≤ 24) (hk : (usd freq).length ≤ 2 ^ m) {s : Nat} (hs : s < freq.length) (h0 : ¬ 0 < gi freq s) : gi (lenP freq m) s = 0 := by
  have e := lnS_none h2 hm hk h0
  rw [lenP_gi hs (by rw [e]; omega), e]; rfl
theorem ln_of {freq : List Int} {m : Nat} (h2 : 2 ≤ (usd freq).length) (hm : 1 ≤ m ∧ m ≤ 24) (hk : (usd freq).length ≤ 2 ^ m) {s : Nat} (hs : s < freq.length) : 0 ≤ gi (lenP freq m) s ∧ gi (lenP freq m) s ≤ m ∧ (0 < gi (lenP freq m) s ↔ 0 < gi freq s) := by
  by_cases h0 : 0 < gi freq s
  · obtain ⟨r, _, _, e, a, b, _⟩ := len_at h2 hm hk hs h0
    rw [e]; omega
  · rw [len_none h2 hm hk hs h0]; omega
theorem ln_often {freq : List Int} {m : Nat} (h2 : 2 ≤ (usd freq).length) (hm : 1 ≤ m ∧ m ≤ 24) (hk : (usd freq).length ≤ 2 ^ m) {i k : Nat} (hi : i < freq.length) (hk' : k < freq.length) (h : gi freq k < gi freq i) (h0 : 0 < gi freq k) : gi (lenP freq m) i ≤ gi (lenP freq m) k := by
  obtain ⟨r, hr, _, e, _, _, w⟩ := len_at h2 hm hk hi (by omega)
  obtain ⟨s, hs, _, e', _, _, w'⟩ := len_at h2 hm hk hk' h0
  rw [e, e']
  have : s ≤ r := by
    rcases Nat.lt_or_ge r s with h1 | h1
    · have := wt_asc (cnT_asc freq) (Nat.le_of_lt h1) hs
      omega
    · exact h1
  have := lnR_mono (cnts (cnT freq) (m - 1) (2 * (cnT freq).length - 2)) this
  unfold lnC
  omega


theorem sumZ_mul (x : Int) (f : Nat → Int) : ∀ n, sumZ (fun i => x * f i) n = x * sumZ f n
  | 0 => by simp [sumZ]
  | n + 1 => by rw [sumZ, sumZ_mul x f n, sumZ, Int.mul_add]
theorem gi_map (l : List Int) (f : Int → Int) (n : Nat) (h : n = l.length) : (l.map f).sum = sumZ (fun s => f (gi l s)) n := by
  subst h
  rw [sumZ_range]
  congr 1
  apply List.ext_getElem?
  intro j
  rw [List.getElem?_map, List.getElem?_map]
  rcases Nat.lt_or_ge j l.length with h | h
  · rw [List.getElem?_range h]; simp [gi, h]
  · rw [List.getElem?_eq_none h, List.getElem?_eq_none (by simpa using h)]; rfl
theorem us_sum (l : List Int) : (usN l : Int) = sumZ (fun s => if 0 < gi l s then 1 else 0) l.length := by
  rw [← gi_map l (fun x => if 0 < x then 1 else 0) _ rfl]
  unfold usN
  induction l with
  | nil => rfl
  | cons x r ih =>
    rw [List.map_cons, List.sum_cons, ← ih]
    by_cases h : 0 < x <;> simp [h]; omega
theorem us_same {freq l : List Int} (hl : l.length = freq.length) (h : ∀ s, s < freq.length → (0 < gi l s ↔ 0 < gi freq s)) : usN l = (usd freq).length := by
  have h1 := us_sum l
  rw [hl, sum_rank (freq := freq) (fun s hs h0 => if_neg (by rw [h s hs]; omega)), sumZ_congr (g := fun _ => 1) (fun r hr => by
    obtain ⟨a, b⟩ := sg_at hr
    exact if_pos ((h _ a).2 b)), sumZ_one, us_len] at h1
  omega
/-- The code's share, by rank. -/
theorem su_rank {freq l : List Int} {m : Nat} (hm : m ≤ 24) (hl : l.length = freq.length) (h : ∀ s, s < freq.length → 0 ≤ gi l s ∧ gi l s ≤ m ∧ (0 < gi l s ↔ 0 < gi freq s)) : suN l = ((2 ^ (24 - m) * sumN (fun r => 2 ^ (m - (gi l (gnn (sg freq) r)).toNat)) (cnT freq).length : Nat) : Int) := by
  unfold suN
  rw [gi_map l part24 _ hl.symm, sum_rank (freq := freq) (fun s hs h0 => by
    have := h s hs
    unfold part24
    rw [if_neg (by omega)]), ← sumN_mul, ← sumZ_cast]
  refine sumZ_congr fun r hr => ?_
  obtain ⟨a, b⟩ := sg_at hr
  obtain ⟨c, d, e⟩ := h _ a
  unfold part24
  rw [if_pos (by omega)]
  unfold p2
  rw [← Nat.pow_add]
  congr 2
  omega

theorem len_full {freq : List Int} {m : Nat} (h2 : 2 ≤ (usd freq).length) (hm : 1 ≤ m ∧ m ≤ 24) (hk : (usd freq).length ≤ 2 ^ m) (hN : freq.length ≤ 1024) : fullB (lenP freq m) = true := by
  have hl := lenP_len freq m
  have hof := fun s hs => ln_of (s := s) h2 hm hk hs
  have hus := us_same hl (fun s hs => (hof s hs).2.2)
  have hle := (usd freq).length
  have hul : (usd freq).length ≤ freq.length := by
    have : (usd freq).length ≤ (List.range freq.length).length := List.length_filter_le ..
    simpa using this
  have hs := su_rank hm.2 hl hof
  have hk3 := (pm_cn h2 hm hk).2.1
  rw [sumN_congr (g := fun r => 2 ^ (m - lnC (cnT freq) (m - 1) r)) (fun r hr => by
    obtain ⟨a, b⟩ := sg_at hr
    obtain ⟨e, _⟩ := (pm_cn h2 hm hk).1 r hr
    have e1 := lnS_at h2 hm hk hr
    rw [lenP_gi a (by rw [e1]; have := ((pm_cn h2 hm hk).1 r hr).2; omega), e1]
    rfl), hk3, ← Nat.pow_add, show 24 - m + m = 24 by omega] at hs
  unfold fullB
  simp only [Bool.and_eq_true, decide_eq_true_eq, hl]
  refine ⟨⟨⟨by omega, hN⟩, ?_⟩, ?_⟩
  · rw [List.all_eq_true]
    intro x hx
    obtain ⟨s, hs', rfl⟩ := List.mem_iff_getElem.1 hx
    rw [hl] at hs'
    have := hof s hs'
    rw [gi_get _ _ (by omega)] at this
    rw [okLen_iff]; omega
  · rw [if_neg (by omega), hs]; rfl
theorem len_least {freq : List Int} {m : Nat} (h2 : 2 ≤ (usd freq).length) (hm : 1 ≤ m ∧ m ≤ 24) (hk : (usd freq).length ≤ 2 ^ m) {o : List Int} (hol : o.length = freq.length) (ho : ∀ s, s < freq.length → gi o s ≤ m ∧ (0 < gi o s ↔ 0 < gi freq s)) (hf : fullB o = true) : sumZ (fun s => gi freq s * gi (lenP freq m) s) freq.length ≤ sumZ (fun s => gi freq s * gi o s) freq.length := by
  unfold fullB at hf
  simp only [Bool.and_eq_true, decide_eq_true_eq] at hf
  obtain ⟨⟨_, hall⟩, hif⟩ := hf
  have hof : ∀ s, s < freq.length → 0 ≤ gi o s ∧ gi o s ≤ m ∧ (0 < gi o s ↔ 0 < gi freq s) := fun s hs => by
    have h1 := okLen_iff.1 (List.all_eq_true.1 hall _ (gi_mem o s (by omega)))
    exact ⟨h1.1, ho s hs⟩
  have hus := us_same hol (fun s hs => (hof s hs).2.2)
  rw [if_neg (by omega), decide_eq_true_eq] at hif
  rw [su_rank hm.2 hol hof] at hif
  have hko : sumN (fun r => 2 ^ (m - (gi o (gnn (sg freq) r)).toNat)) (cnT freq).length = 2 ^ m := by
    have e : (2 : Nat) ^ 24 = 2 ^ (24 - m) * 2 ^ m := by rw [← Nat.pow_add, show 24 - m + m = 24 by omega]
    have hp := Nat.two_pow_pos (24 - m)
    refine Nat.eq_of_mul_eq_mul_left hp ?_
    rw [← e]
    omega
  have hmain := (pm_cn h2 hm hk).2.2 (fun r => (gi o (gnn (sg freq) r)).toNat) (fun r hr => by
    obtain ⟨a, b⟩ := sg_at hr
    have := hof _ a
    omega) hko
  have z : ∀ (l : List Int), (∀ s, s < freq.length → 0 ≤ gi l s ∧ (0 < gi l s ↔ 0 < gi freq s)) → ∀ s, s < freq.length → gi freq s ≤ 0 → gi freq s * gi l s = 0 := fun l hl s hs h0 => by
    have := hl s hs
    rw [show gi l s = 0 by omega, Int.mul_zero]
  rw [sum_rank (freq := freq) (z _ fun s hs => ⟨(ln_of h2 hm hk hs).1, (ln_of h2 hm hk hs).2.2⟩), sum_rank (freq := freq) (z _ fun s hs => ⟨(hof s hs).1, (hof s hs).2.2⟩)]
  rw [sumZ_congr (g := fun r => wt (cnT freq) r * (lnC (cnT freq) (m - 1) r : Int)) (fun r hr => by
    obtain ⟨a, b⟩ := sg_at hr
    have e1 := lnS_at h2 hm hk hr
    rw [lenP_gi a (by rw [e1]; have := ((pm_cn h2 hm hk).1 r hr).2; omega), e1, sg_wt hr])]
  rw [sumZ_congr (f := fun r => gi freq (gnn (sg freq) r) * gi o (gnn (sg freq) r)) (g := fun r => wt (cnT freq) r * ((gi o (gnn (sg freq) r)).toNat : Int)) (fun r hr => by
    obtain ⟨a, b⟩ := sg_at hr
    have := hof _ a
    rw [sg_wt hr, Int.toNat_of_nonneg (by omega)])]
  exact hmain


end Go.Proofs.Ytgjnfajdejkkjaa.VG
