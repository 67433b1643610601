/-
  The program's rows are those of package-merge.
-/
import Derived.Test.YtgjnfajdejkkjaaQf
import Derived.Test.YtgjnfajdejkkjaaXb
namespace Go.Proofs.Ytgjnfajdejkkjaa.VG
open Go
set_option linter.unusedSimpArgs false
set_option linter.unusedVariables false
set_option maxRecDepth 20000

abbrev Pl := Int × Int × Option (Nat × Nat)
def WfP (P : List Pl) : Prop := ∀ (k : Nat) (p : Pl), P[k]? = some p → ∀ a b : Nat, p.2.2 = some (a, b) → a < k ∧ b < k
def thP (P : List Pl) (i : Nat) : Th := (wP P i, symsF P.length P i)

theorem plG_app {P Q : List Pl} {i : Nat} (h : i < P.length) : plG (P ++ Q) i = plG P i := by
  unfold plG
  rw [List.getElem?_append_left h, List.getElem?_eq_getElem h]
  rfl
theorem plG_lt {P : List Pl} {i : Nat} (h : i < P.length) : P[i]? = some (plG P i) := by
  unfold plG
  rw [List.getElem?_eq_getElem h]; rfl
theorem syms_st {P Q : List Pl} (hW : WfP P) : ∀ (f g i : Nat), i < f → i < g → i < P.length → symsF f P i = symsF g (P ++ Q) i
  | 0, _, _, h, _, _ => by omega
  | _ + 1, 0, _, _, h, _ => by omega
  | f + 1, g + 1, i, hf, hg, hi => by
    rw [symsF, symsF, plG_app hi]
    rcases hp : (plG P i).2.2 with _ | ⟨a, b⟩
    · rfl
    · obtain ⟨ha, hb⟩ := hW i _ (plG_lt hi) a b hp
      show symsF f P a ++ symsF f P b = symsF g (P ++ Q) a ++ symsF g (P ++ Q) b
      rw [syms_st hW f g a (by omega) (by omega) (by omega), syms_st hW f g b (by omega) (by omega) (by omega)]
theorem thP_app {P Q : List Pl} (hW : WfP P) {i : Nat} (h : i < P.length) : thP (P ++ Q) i = thP P i := by
  unfold thP wP
  rw [plG_app h, ← syms_st hW P.length (P ++ Q).length i h (by simp; omega) h]
theorem asc_th {P : List Pl} {r : List Nat} : AscT (r.map (thP P)) ↔ Asc (wP P) r := by unfold AscT Asc; rw [List.pairwise_map]; rfl
theorem mrg_th (P : List Pl) : ∀ (n : Nat) (X Y : List Nat), X.length + Y.length = n → (mrg (wP P) X Y).map (thP P) = mrgT (X.map (thP P)) (Y.map (thP P))
  | _, [], Y, _ => by rw [mrg_nil', List.map_nil, mrgT_nil']
  | _, x :: X, [], _ => by rw [mrg_nil, List.map_nil, mrgT_nil]
  | 0, x :: X, y :: Y, h => by simp at h
  | n + 1, x :: X, y :: Y, h => by
    by_cases hlt : wP P y < wP P x
    · rw [mrg_r hlt, List.map_cons, mrg_th P n (x :: X) Y (by simp at h ⊢; omega), List.map_cons, List.map_cons, mrgT_r (by exact hlt)]
    · rw [mrg_l (by omega), List.map_cons, mrg_th P n X (y :: Y) (by simp at h ⊢; omega), List.map_cons, List.map_cons, mrgT_l (by exact Int.not_lt.1 hlt)]
theorem srt_self {f : Nat → Int} {lt : Nat → Nat → Bool} (hl : ∀ x y, lt x y = decide (f x < f y)) : ∀ l : List Nat, Asc f l → srt lt l = l := by
  intro l
  induction hn : l.length generalizing l with
  | zero => intro _; obtain rfl := List.length_eq_zero_iff.1 hn; rfl
  | succ n ih =>
    intro h
    obtain ⟨l', y, rfl⟩ : ∃ l' y, l = l' ++ [y] := ⟨l.dropLast, l.getLast (by intro h; simp [h] at hn), (List.dropLast_concat_getLast _).symm⟩
    unfold Asc at h
    rw [List.pairwise_append] at h
    rw [srt_snoc, ih l' (by simpa using hn) h.1]
    have := insL_app hl (y := y) (P := l') (Q := []) (fun z hz => h.2.2 z hz y (by simp)) (by simp)
    simpa using this
theorem insV_perm (lt : Nat → Nat → Bool) (x : Nat) : ∀ l : List Nat, (insV lt x l).Perm (x :: l)
  | [] => List.Perm.refl _
  | y :: t => by
    unfold insV
    split
    · exact (List.Perm.cons y (insV_perm lt x t)).trans (List.Perm.swap x y t)
    · exact List.Perm.refl _
theorem srt_perm (lt : Nat → Nat → Bool) : ∀ l : List Nat, (srt lt l).Perm l := by
  intro l
  induction hn : l.length generalizing l with
  | zero => obtain rfl := List.length_eq_zero_iff.1 hn; exact List.Perm.refl _
  | succ n ih =>
    obtain ⟨l', y, rfl⟩ : ∃ l' y, l = l' ++ [y] := ⟨l.dropLast, l.getLast (by intro h; simp [h] at hn), (List.dropLast_concat_getLast _).symm⟩
    rw [srt_snoc]
    unfold insL
    refine (List.reverse_perm _).trans ((insV_perm lt y _).trans ?_)
    refine ((List.Perm.cons y ((List.reverse_perm _).trans (ih l' (by simpa using hn)))).trans ?_)
    exact (List.perm_append_comm (l₁ := [y]) (l₂ := l'))

theorem pkT_get : ∀ (l : List Th) (j : Nat), j < l.length / 2 → ∃ x y, l[2 * j]? = some x ∧ l[2 * j + 1]? = some y ∧ (pkT l)[j]? = some (x.1 + y.1, x.2 ++ y.2)
  | [], j, h => by simp at h
  | [_], j, h => by simp at h
  | a :: b :: r, 0, _ => ⟨a, b, rfl, rfl, by simp [pkT]⟩
  | a :: b :: r, j + 1, h => by
    obtain ⟨x, y, h1, h2, h3⟩ := pkT_get r j (by simp at h; omega)
    refine ⟨x, y, ?_, ?_, ?_⟩
    · rw [show 2 * (j + 1) = 2 * j + 1 + 1 by omega]; simpa using h1
    · rw [show 2 * (j + 1) + 1 = 2 * j + 1 + 1 + 1 by omega]; simpa using h2
    · rw [pkT]; simpa using h3

def cnT (freq : List Int) : List Th := (cnR freq).map (thP (cnP freq freq.length))
def BP (freq : List Int) (k : Nat) : Prop := WfP (rowP freq k).1 ∧ (∀ i ∈ (rowP freq k).2, i < (rowP freq k).1.length) ∧ (∀ i ∈ cnR freq, i < (rowP freq k).1.length) ∧ (cnR freq).map (thP (rowP freq k).1) = cnT freq ∧ (rowP freq k).2.map (thP (rowP freq k).1) = rowT (cnT freq) k

theorem ltP_dec (P : List Pl) : ∀ x y, ltP P x y = decide (wP P x < wP P y) := fun _ _ => rfl
theorem cnT_asc (freq : List Int) : AscT (cnT freq) := by
  unfold cnT
  rw [asc_th]
  exact srt_asc (ltP_dec _) _
theorem cnP_pair {freq : List Int} {n : Nat} {p : Pl} (h : p ∈ cnP freq n) : p.2.2 = none ∧ ∃ k, k < n ∧ 0 < gi freq k ∧ p = (gi freq k, (k : Int), none) := by
  unfold cnP at h
  rw [List.mem_flatMap] at h
  obtain ⟨k, hk, h⟩ := h
  split at h
  · rename_i hp
    simp only [List.mem_singleton] at h
    subst h
    exact ⟨rfl, k, List.mem_range.1 hk, hp, rfl⟩
  · cases h
theorem bp_zero (freq : List Int) : BP freq 0 := by
  have hcl : ∀ i ∈ cnR freq, i < (cnP freq freq.length).length := fun i hi => by
    unfold cnR at hi
    rw [srt_mem, List.mem_range] at hi
    exact hi
  refine ⟨fun k p hp a b e => ?_, hcl, hcl, rfl, rfl⟩
  have := (cnP_pair (List.mem_of_getElem? hp)).1
  rw [this] at e; cases e
theorem pkL_wf {P : List Pl} {r : List Nat} (hW : WfP P) (hr : ∀ i ∈ r, i < P.length) : WfP (P ++ pkL (wP P) r) := by
  intro k p hp a b e
  rcases Nat.lt_or_ge k P.length with h | h
  · rw [List.getElem?_append_left h] at hp
    exact hW k p hp a b e
  · rw [List.getElem?_append_right h] at hp
    have hm := List.mem_of_getElem? hp
    unfold pkL at hm
    rw [List.mem_map] at hm
    obtain ⟨j, hj, rfl⟩ := hm
    rw [List.mem_range] at hj
    unfold pk1 at e
    simp only [Option.some.injEq, Prod.mk.injEq] at e
    obtain ⟨rfl, rfl⟩ := e
    have h1 := hr _ (gn_mem (r := r) (i := 2 * j) (by omega))
    have h2 := hr _ (gn_mem (r := r) (i := 2 * j + 1) (by omega))
    omega
theorem pkL_th {P : List Pl} {r : List Nat} (hW : WfP P) (hr : ∀ i ∈ r, i < P.length) : (List.range' P.length (r.length / 2)).map (thP (P ++ pkL (wP P) r)) = pkT (r.map (thP P)) := by
  apply List.ext_getElem?
  intro j
  rcases Nat.lt_or_ge j (r.length / 2) with h | h
  · obtain ⟨x, y, h1, h2, h3⟩ := pkT_get (r.map (thP P)) j (by simpa using h)
    rw [h3, List.getElem?_map, List.getElem?_eq_getElem (by simpa using h), List.getElem_range']
    rw [List.getElem?_map, gn_lt (by omega)] at h1 h2
    simp only [Option.map_some, Option.some.injEq] at h1 h2
    subst h1
    subst h2
    have a1 := hr _ (gn_mem (r := r) (i := 2 * j) (by omega))
    have a2 := hr _ (gn_mem (r := r) (i := 2 * j + 1) (by omega))
    have hg : plG (P ++ pkL (wP P) r) (P.length + j) = pk1 (wP P) r j := by
      unfold plG
      rw [List.getElem?_append_right (by omega), Nat.add_sub_cancel_left]
      unfold pkL
      rw [List.getElem?_map, List.getElem?_range h]
      rfl
    have hlen : (P ++ pkL (wP P) r).length = P.length + r.length / 2 := by simp [pkL]
    simp only [Option.map_some, Option.some.injEq, Nat.one_mul]
    refine Prod.ext ?_ ?_
    · show (plG (P ++ pkL (wP P) r) (P.length + j)).1 = _
      rw [hg]; rfl
    show symsF (P ++ pkL (wP P) r).length (P ++ pkL (wP P) r) (P.length + j) = _
    obtain ⟨q, hq⟩ : ∃ q, P.length + r.length / 2 = q + 1 := ⟨P.length + r.length / 2 - 1, by omega⟩
    rw [hlen, hq, symsF, hg]
    show symsF q _ (gn r (2 * j)) ++ symsF q _ (gn r (2 * j + 1)) = _
    rw [← syms_st hW P.length q _ a1 (by omega) a1, ← syms_st hW P.length q _ a2 (by omega) a2]
    rfl
  · rw [List.getElem?_eq_none (by simpa using h), List.getElem?_eq_none (by rw [pkT_len, List.length_map]; exact h)]
theorem bp_succ {freq : List Int} {k : Nat} (h : BP freq k) : BP freq (k + 1) := by
  obtain ⟨hW, hr, hc, h1, h2⟩ := h
  have e : rowP freq (k + 1) = ((rowP freq k).1 ++ pkL (wP (rowP freq k).1) (rowP freq k).2, srt (ltP ((rowP freq k).1 ++ pkL (wP (rowP freq k).1) (rowP freq k).2)) (nxtR (rowP freq k).1.length (cnR freq) ((rowP freq k).2.length / 2))) := rfl
  generalize rowP freq k = s at *
  obtain ⟨P, r⟩ := s
  simp only at *
  unfold BP
  rw [e]
  simp only
  have hW' := pkL_wf hW hr
  have ht := pkL_th hW hr
  have hlen : (P ++ pkL (wP P) r).length = P.length + r.length / 2 := by simp [pkL]
  have h1' : (cnR freq).map (thP (P ++ pkL (wP P) r)) = cnT freq := by
    rw [← h1]
    exact List.map_congr_left fun i hi => thP_app hW (hc i hi)
  have a1 : Asc (wP (P ++ pkL (wP P) r)) (cnR freq) := by rw [← asc_th, h1']; exact cnT_asc freq
  have a2 : Asc (wP (P ++ pkL (wP P) r)) (List.range' P.length (r.length / 2)) := by
    rw [← asc_th, ht, h2]
    exact pkT_asc (row_asc (cnT_asc freq) k)
  refine ⟨hW', fun i hi => ?_, fun i hi => by have := hc i hi; omega, h1', ?_⟩
  · rw [srt_mem] at hi
    have := nxtR_bd hc i hi
    omega
  · unfold nxtR
    rw [← mrg_srt (ltP_dec _), srt_self (ltP_dec _) _ a1, srt_self (ltP_dec _) _ a2, mrg_th _ _ _ _ rfl, h1', ht, h2]
    rfl
theorem bp_all (freq : List Int) : ∀ k, BP freq k
  | 0 => bp_zero freq
  | k + 1 => bp_succ (bp_all freq k)

/-! ### The coins, by symbol -/
def coin (freq : List Int) (k : Nat) : Th := (gi freq k, [k])
/-- The symbols that are counted. -/
def usd (freq : List Int) : List Nat := (List.range freq.length).filter fun k => decide (0 < gi freq k)
theorem cnP_th (freq : List Int) (n : Nat) : (cnP freq n).map (fun p => ((p.1, [p.2.1.toNat]) : Th)) = ((List.range n).filter fun k => decide (0 < gi freq k)).map (coin freq) := by
  induction n with
  | zero => rfl
  | succ n ih =>
    have hcn : cnP freq (n + 1) = cnP freq n ++ (if 0 < gi freq n then [(gi freq n, (n : Int), none)] else []) := by unfold cnP; rw [List.range_succ, List.flatMap_append]; simp
    rw [hcn, List.map_append, ih, List.range_succ, List.filter_append, List.map_append]
    congr 1
    by_cases h : 0 < gi freq n <;> simp [h, coin]
theorem cnT_perm (freq : List Int) : (cnT freq).Perm ((usd freq).map (coin freq)) := by
  unfold cnT usd
  rw [← cnP_th]
  refine ((srt_perm _ _).map _).trans ?_
  refine List.Perm.of_eq ?_
  apply List.ext_getElem?
  intro j
  rw [List.getElem?_map, List.getElem?_map]
  rcases Nat.lt_or_ge j (cnP freq freq.length).length with h | h
  · rw [List.getElem?_range h, plG_lt h]
    have hn := (cnP_pair (List.mem_of_getElem? (plG_lt h))).1
    obtain ⟨q, hq⟩ : ∃ q, (cnP freq freq.length).length = q + 1 := ⟨(cnP freq freq.length).length - 1, by omega⟩
    simp only [Option.map_some, Option.some.injEq, thP, wP]
    rw [hq, symsF, hn]
  · rw [List.getElem?_eq_none (by simpa using h), List.getElem?_eq_none (by simpa using h)]
    rfl
theorem usd_mem {freq : List Int} {s : Nat} : s ∈ usd freq ↔ s < freq.length ∧ 0 < gi freq s := by simp [usd]
theorem usd_nodup (freq : List Int) : (usd freq).Nodup := List.nodup_range.sublist List.filter_sublist

/-- The length of a symbol's word. -/
def lnS (freq : List Int) (m s : Nat) : Nat := (symT ((rowT (cnT freq) (m - 1)).take (2 * (cnT freq).length - 2))).count s
theorem addS_gi {s : Nat} : ∀ (l : List Nat) (L : List Int), s < L.length → 0 ≤ gi L s → gi L s + l.count s < 4611686018427387904 → gi (addS L l) s = gi L s + l.count s
  | [], L, _, _, _ => by simp [addS]
  | x :: l, L, hs, h0, hb => by
    show gi (addS (inc L x) l) s = _
    have hlen : (inc L x).length = L.length := by simp [inc]
    by_cases hx : x = s
    · subst hx
      rw [List.count_cons_self] at hb ⊢
      have hw : IntKind.i64.wrap (gi L x + 1) = gi L x + 1 := wI (by omega) (by omega)
      have hg : gi (inc L x) x = gi L x + 1 := by simp [inc, gi, hs] at hw ⊢; simpa [hs] using hw
      rw [addS_gi l (inc L x) (by omega) (by omega) (by rw [hg]; omega), hg]
      omega
    · rw [List.count_cons_of_ne hx] at hb ⊢
      have hg : gi (inc L x) s = gi L s := by unfold inc gi; simp [List.getElem?_set, hx]
      rw [addS_gi l (inc L x) (by omega) (by omega) (by rw [hg]; omega), hg]
theorem cnT_len (freq : List Int) : (cnT freq).length = (cnP freq freq.length).length := by unfold cnT; rw [List.length_map, cnR_length]
theorem lenP_len (freq : List Int) (m : Nat) : (lenP freq m).length = freq.length := by unfold lenP; rw [addS_length, List.length_replicate]
theorem lenP_gi {freq : List Int} {m s : Nat} (hs : s < freq.length) (hb : lnS freq m s < 4611686018427387904) : gi (lenP freq m) s = lnS freq m s := by
  obtain ⟨_, _, _, _, h2⟩ := bp_all freq (m - 1)
  have e : ((rowP freq (m - 1)).2.take (2 * (cnP freq freq.length).length - 2)).flatMap (symsF (rowP freq (m - 1)).1.length (rowP freq (m - 1)).1) = symT ((rowT (cnT freq) (m - 1)).take (2 * (cnT freq).length - 2)) := by
    rw [cnT_len, ← h2, ← List.map_take]
    unfold symT
    rw [List.flatMap_map]
    rfl
  have hz : gi (List.replicate freq.length 0) s = 0 := by simp [gi, hs]
  unfold lenP
  rw [e, addS_gi _ _ (by simpa using hs) (by rw [hz]; exact Int.le_refl _) (by rw [hz]; unfold lnS at hb; omega), hz]
  unfold lnS
  omega

end Go.Proofs.Ytgjnfajdejkkjaa.VG
