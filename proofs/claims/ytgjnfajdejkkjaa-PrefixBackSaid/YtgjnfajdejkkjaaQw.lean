/-
  The document's search for a symbol, and the table's: one (and what goes with it: parts Qu Qv Qw).
-/
import Derived.Test.YtgjnfajdejkkjaaQt

/-! ## The document's search for a symbol, and the table's: one. -/
namespace Go.Proofs.Ytgjnfajdejkkjaa.VG
open Go
set_option linter.unusedSimpArgs false
set_option linter.unusedVariables false
set_option maxRecDepth 20000

def bitsW (bs : List Nat) : Nat → Nat → Nat → Nat × Nat × Int
  | 0, v, p => (v, p, 0)
  | m + 1, v, p => if (rGet bs p 0 1).2.2 ≠ 0 then (v, (rGet bs p 0 1).2.1, (rGet bs p 0 1).2.2) else bitsW bs m (2 * v + (rGet bs p 0 1).1) (rGet bs p 0 1).2.1
def decW (l : List Int) (bs : List Nat) : List Nat → Nat → Nat → Nat → (Int × Int) × Nat × Int
  | [], _, _, p => ((0, 2), p, 0)
  | s :: r, n, v, p =>
    let g := bitsW bs ((gi l s).toNat - n) v p
    if g.2.2 ≠ 0 then ((0, g.2.2), g.2.1, g.2.2)
    else if gi (cdW l) s = g.1 then ((s, 0), g.2.1, 0) else decW l bs r (gi l s).toNat g.1 g.2.1

theorem decW_same {l : List Int} {bs : List Nat} {n v p : Nat} : ∀ (A r : List Nat), (∀ s ∈ A, gi l s = (n : Int)) → decW l bs (A ++ r) n v p = match A.find? (fun s => decide (gi (cdW l) s = v)) with
    | some s => ((s, 0), p, 0)
    | none => decW l bs r n v p
  | [], r, _ => rfl
  | s :: A, r, h => by
    have hs := h s (by simp)
    rw [List.cons_append, decW, hs, Int.toNat_natCast, Nat.sub_self]
    have ih := decW_same (bs := bs) (v := v) (p := p) A r (fun x hx => h x (by simp [hx]))
    rw [List.find?_cons]
    by_cases hw : gi (cdW l) s = (v : Int)
    · simp [bitsW, hw]
    · simp only [bitsW, hw, decide_false, ne_eq, not_true_eq_false, if_false]
      exact ih
/-- One bit more, where no symbol is so short. -/
theorem decW_bit {l : List Int} {bs : List Nat} {n v p s : Nat} {r : List Nat} (h : n < (gi l s).toNat) : decW l bs (s :: r) n v p =
    if (rGet bs p 0 1).2.2 ≠ 0 then ((0, (rGet bs p 0 1).2.2), (rGet bs p 0 1).2.1, (rGet bs p 0 1).2.2) else decW l bs (s :: r) (n + 1) (2 * v + (rGet bs p 0 1).1) (rGet bs p 0 1).2.1 := by
  obtain ⟨m, hm⟩ : ∃ m, (gi l s).toNat - n = m + 1 := ⟨(gi l s).toNat - n - 1, by omega⟩
  rw [decW, hm, bitsW]
  by_cases he : (rGet bs p 0 1).2.2 ≠ 0
  · simp only [if_pos he]
  · simp only [if_neg he]
    rw [decW, show (gi l s).toNat - (n + 1) = m by omega]


theorem filter_next {g : Nat → Int} (n : Nat) : ∀ r : List Nat, r.Pairwise (fun a b => g a ≤ g b) → r.filter (fun s => decide ((n : Int) < g s)) = r.filter (fun s => decide (g s = ((n + 1 : Nat) : Int))) ++ r.filter (fun s => decide (((n + 1 : Nat) : Int) < g s))
  | [], _ => rfl
  | a :: r, h => by
    rw [List.pairwise_cons] at h
    have ih := filter_next n r h.2
    by_cases h1 : (n : Int) < g a
    · by_cases h2 : g a = ((n + 1 : Nat) : Int)
      · rw [List.filter_cons_of_pos (by simpa using h1), List.filter_cons_of_pos (by simpa using h2), List.filter_cons_of_neg (by simp; omega), ih]
        rfl
      · have hno : r.filter (fun s => decide (g s = ((n + 1 : Nat) : Int))) = [] := by
          rw [List.filter_eq_nil_iff]
          intro b hb
          have := h.1 b hb
          simp only [decide_eq_true_eq]
          omega
        rw [hno, List.nil_append] at ih
        rw [List.filter_cons_of_pos (by simpa using h1), List.filter_cons_of_neg (by simp only [decide_eq_true_eq]; exact h2), List.filter_cons_of_pos (by simp only [decide_eq_true_eq]; omega), hno, ih]
        rfl
    · rw [List.filter_cons_of_neg (by simpa using h1), List.filter_cons_of_neg (by simp only [decide_eq_true_eq]; omega), List.filter_cons_of_neg (by simp only [decide_eq_true_eq]; omega), ih]
theorem look_find {c : Nat → Int} (A : List Nat) (k : Int) (hk : 0 ≤ k) (v : Nat) : (∀ (j s : Nat), A[j]? = some s → c s = k + (j : Int)) → (if (v : Int) < k then none else A[v - k.toNat]?) = A.find? (fun s => decide (c s = v)) := by
  induction A generalizing k with
  | nil => intro _; simp
  | cons a r ih =>
    intro h
    have ha := h 0 a rfl
    have ih' := ih (k + 1) (by omega) (fun j s hs => by
      have := h (j + 1) s hs
      omega)
    rw [List.find?_cons]
    by_cases hv : (v : Int) = k
    · rw [if_neg (by omega), show v - k.toNat = 0 by omega]
      have : decide (c a = (v : Int)) = true := by simp; omega
      rw [this]; rfl
    · have : decide (c a = (v : Int)) = false := by simp; omega
      rw [this, ← ih']
      by_cases hlt : (v : Int) < k
      · rw [if_pos hlt, if_pos (by omega)]
      · rw [if_neg hlt, if_neg (by omega), show v - k.toNat = (v - (k + 1).toNat) + 1 by omega]
        rfl

theorem dec_eq {l : List Int} {bs : List Nat} {fi : Nat → Int} {sy : Nat → List Nat} {lo : Nat} (hb : ∀ n, sy n = (rk l).filter (fun s => decide (gi l s = (n : Int)))) (hc : ∀ (n j s : Nat), (sy n)[j]? = some s → gi (cdW l) s = fi n + (j : Int))
    (hd : ∀ n, 0 ≤ fi n) (hlo : ∀ s ∈ rk l, gi l s ≤ lo) (hex : lo = 0 ∨ ∃ s ∈ rk l, gi l s = lo) : ∀ (f n v p : Nat), lo = n + f → decT fi sy bs f (n + 1) v p = decW l bs ((rk l).filter (fun s => decide ((n : Int) < gi l s))) n v p
  | 0, n, v, p, h => by
    have : (rk l).filter (fun s => decide ((n : Int) < gi l s)) = [] := by
      rw [List.filter_eq_nil_iff]
      intro s hs
      have := hlo s hs
      simp only [decide_eq_true_eq]
      omega
    rw [this]; rfl
  | f + 1, n, v, p, h => by
    have ih := fun v p => dec_eq (bs := bs) hb hc hd hlo hex f (n + 1) v p (by omega)
    obtain ⟨s, hs, hg⟩ : ∃ s ∈ rk l, gi l s = lo := hex.resolve_left (by omega)
    have hfn := filter_next (g := gi l) n (rk l) (rkN_pw l 24)
    have hmem : s ∈ (rk l).filter (fun s => decide ((n : Int) < gi l s)) := by
      rw [List.mem_filter]; exact ⟨hs, by simp; omega⟩
    have hall : ∀ x ∈ (rk l).filter (fun s => decide ((n : Int) < gi l s)), (n : Int) < gi l x := fun x hx => by
      rw [List.mem_filter] at hx; simpa using hx.2
    rw [decT]
    rcases hR : (rk l).filter (fun s => decide ((n : Int) < gi l s)) with _ | ⟨x, R⟩
    · rw [hR] at hmem; cases hmem
    · have hx := hall x (by rw [hR]; simp)
      rw [decW_bit (by omega)]
      by_cases he : (rGet bs p 0 1).2.2 ≠ 0
      · rw [if_pos he, if_pos he]
      · rw [if_neg he, if_neg he, ← hR, hfn, ← hb (n + 1), decW_same _ _ (fun y hy => by rw [hb, List.mem_filter] at hy; simpa using hy.2)]
        have hl := look_find (c := gi (cdW l)) (sy (n + 1)) (fi (n + 1)) (hd _) (2 * v + (rGet bs p 0 1).1) (hc (n + 1))
        unfold lookT
        rw [hl]
        cases (sy (n + 1)).find? (fun s => decide (gi (cdW l) s = ((2 * v + (rGet bs p 0 1).1 : Nat) : Int))) with
        | some s => rfl
        | none => exact ih _ _

end Go.Proofs.Ytgjnfajdejkkjaa.VG

/-! ## What the table of a code tells. -/
namespace Go.Proofs.Ytgjnfajdejkkjaa.VG
open Go
set_option linter.unusedSimpArgs false
set_option linter.unusedVariables false
set_option maxRecDepth 20000

theorem word_next {l : List Int} (hl : l.length ≤ 1024) {i : Nat} (h : i + 1 < (rk l).length) (he : gi l (gnn (rk l) i) = gi l (gnn (rk l) (i + 1))) : gi (cdW l) (gnn (rk l) (i + 1)) = gi (cdW l) (gnn (rk l) i) + 1 := by
  obtain ⟨c, hc, sc⟩ := word_at hl (j := i) (by omega)
  obtain ⟨d, hd, sd⟩ := word_at hl h
  have e : lnN l (i + 1) = lnN l i := by unfold lnN; rw [he]
  rw [e] at sd
  have hS : shS l (i + 1) = shS l i + 2 ^ (24 - lnN l i) := rfl
  have hp := Nat.two_pow_pos (24 - lnN l i)
  have : d * 2 ^ (24 - lnN l i) = (c + 1) * 2 ^ (24 - lnN l i) := by rw [sd, hS, Nat.add_mul, sc, Nat.one_mul]
  have := Nat.eq_of_mul_eq_mul_right hp this
  rw [hc, hd]; omega

def TbOk (l : List Int) (i : Nat) : Prop := ∀ n, (tbl l i).2.2 n = ((rk l).take i).filter (fun s => decide (gi l s = (n : Int))) ∧ (∀ (j s : Nat), ((tbl l i).2.2 n)[j]? = some s → gi (cdW l) s = (tbl l i).2.1 n + (j : Int)) ∧ 0 ≤ (tbl l i).2.1 n
theorem tbl_ok {l : List Int} (hl : l.length ≤ 1024) : ∀ i, i ≤ (rk l).length → TbOk l i
  | 0, _ => fun n => ⟨rfl, fun j s h => by simp [tbl] at h, Int.le_refl _⟩
  | i + 1, h => fun n => by
    have ih := tbl_ok hl i (by omega)
    obtain ⟨k1, k2, k3⟩ := rk_lt (l := l) (i := i) (by omega)
    obtain ⟨c, hc, _⟩ := word_at hl (j := i) (by omega)
    obtain ⟨m, hm⟩ : ∃ m : Nat, gi l (gnn (rk l) i) = m := ⟨(gi l (gnn (rk l) i)).toNat, by omega⟩
    rw [tbl_snoc (by omega)]
    unfold stepT
    rw [hm, Int.toNat_natCast]
    simp only [gnn_take (show i < (rk l).length by omega), List.filter_append]
    by_cases hnm : n = m
    · subst hnm
      obtain ⟨i1, i2, i3⟩ := ih n
      have hf : [gnn (rk l) i].filter (fun s => decide (gi l s = (n : Int))) = [gnn (rk l) i] := by simp [hm]
      rw [hf]
      have hself : upG (tbl l i).2.1 n (gi (cdW l) (gnn (rk l) i)) n = gi (cdW l) (gnn (rk l) i) := by simp [upG]
      have hself2 : upG (tbl l i).2.2 n ((tbl l i).2.2 n ++ [gnn (rk l) i]) n = (tbl l i).2.2 n ++ [gnn (rk l) i] := by simp [upG]
      rw [hself2]
      by_cases hnil : (tbl l i).2.2 n = []
      · rw [hnil] at i1 i2 ⊢
        simp only [if_true, List.nil_append]
        rw [← i1]
        refine ⟨rfl, fun j s hs => ?_, by rw [hself]; omega⟩
        rw [hself]
        rcases j with _ | j
        · simp at hs; subst hs; omega
        · simp at hs
      · rw [if_neg hnil]
        refine ⟨by rw [i1], fun j s hs => ?_, i3⟩
        by_cases hj : j < ((tbl l i).2.2 n).length
        · rw [List.getElem?_append_left hj] at hs
          exact i2 j s hs
        · rw [List.getElem?_append_right (by omega)] at hs
          have hjl : j = ((tbl l i).2.2 n).length := by
            rcases hq : j - ((tbl l i).2.2 n).length with _ | q
            · omega
            · rw [hq] at hs; simp at hs
          rw [hjl, Nat.sub_self] at hs
          simp at hs
          subst hs
          obtain ⟨x, hx⟩ := List.exists_mem_of_ne_nil _ hnil
          rw [i1, List.mem_filter] at hx
          obtain ⟨a, ha, rfl⟩ := List.mem_iff_getElem.1 hx.1
          rw [List.length_take] at ha
          obtain ⟨i', rfl⟩ : ∃ i', i = i' + 1 := ⟨i - 1, by omega⟩
          have hgx : gi l (gnn (rk l) a) = n := by
            have := hx.2
            rw [List.getElem_take, gnn_get (by omega)] at this
            simpa using this
          have he : gi l (gnn (rk l) i') = n := by
            have h1 := rk_mono (l := l) (i := i') (j := i' + 1) (by omega) (by omega)
            rcases Nat.lt_or_ge a i' with h2 | h2
            · have := rk_mono (l := l) h2 (by omega)
              omega
            · obtain rfl : a = i' := by omega
              exact hgx
          have hlast : (tbl l (i' + 1)).2.2 n = ((rk l).take i').filter (fun s => decide (gi l s = (n : Int))) ++ [gnn (rk l) i'] := by
            rw [i1, gnn_take (by omega), List.filter_append]; simp [he]
          have hw := word_next hl (i := i') (by omega) (by rw [he, hm])
          have h3 := i2 (((rk l).take i').filter (fun s => decide (gi l s = (n : Int)))).length (gnn (rk l) i') (by rw [hlast]; simp)
          rw [hw, h3, hjl, hlast, List.length_append, List.length_singleton]
          omega
    · obtain ⟨i1, i2, i3⟩ := ih n
      have hf : [gnn (rk l) i].filter (fun s => decide (gi l s = (n : Int))) = [] := by simp [hm]; omega
      rw [hf, List.append_nil]
      have hu : ∀ x, upG (tbl l i).2.1 m x n = (tbl l i).2.1 n := fun x => by simp [upG, hnm]
      have hu2 : ∀ x, upG (tbl l i).2.2 m x n = (tbl l i).2.2 n := fun x => by simp [upG, hnm]
      rw [hu2]
      refine ⟨i1, ?_, ?_⟩
      · split
        · rw [hu]; exact i2
        · exact i2
      · split
        · rw [hu]; exact i3
        · exact i3


theorem tbl_fi {l : List Int} (hf : fullB l = true) : ∀ i, i ≤ (rk l).length → ∀ n, (tbl l i).2.1 n ≤ 16777216
  | 0, _ => fun n => by show (0 : Int) ≤ 16777216; omega
  | i + 1, h => fun n => by
    have ih := tbl_fi hf i (by omega) n
    obtain ⟨k1, k2, k3⟩ := rk_lt (l := l) (i := i) (by omega)
    obtain ⟨c, hc, hlt⟩ := word_fits hf k1
    have hp : 2 ^ (gi l (gnn (rk l) i)).toNat ≤ 2 ^ 24 := Nat.pow_le_pow_right (by omega) (by omega)
    rw [tbl_snoc (by omega)]
    unfold stepT
    simp only
    split
    · unfold upG
      split
      · rw [hc]; omega
      · exact ih
    · exact ih
/-- The table's search is the document's. -/
theorem dec_all {l : List Int} (hl : l.length ≤ 1024) (bs : List Nat) (p : Nat) : ∃ lo : Nat, (tbl l (rk l).length).1 = lo ∧ lo ≤ 24 ∧ decT (tbl l (rk l).length).2.1 (tbl l (rk l).length).2.2 bs lo 1 0 p = decW l bs (rk l) 0 0 p := by
  have hok := tbl_ok hl (rk l).length (Nat.le_refl _)
  have hmem : ∀ s ∈ rk l, ∃ j, j < (rk l).length ∧ gnn (rk l) j = s := fun s hs => by
    obtain ⟨j, hj, e⟩ := List.mem_iff_getElem.1 hs
    exact ⟨j, hj, by rw [← gnn_get hj]; exact e⟩
  have hall : (rk l).filter (fun s => decide (((0 : Nat) : Int) < gi l s)) = rk l := by
    rw [List.filter_eq_self]
    intro s hs
    obtain ⟨j, hj, rfl⟩ := hmem s hs
    have := rk_lt hj
    simp; omega
  have hb : ∀ n, (tbl l (rk l).length).2.2 n = (rk l).filter (fun s => decide (gi l s = (n : Int))) := fun n => by
    have := (hok n).1
    rwa [List.take_length] at this
  rcases Nat.eq_zero_or_pos (rk l).length with h0 | h0
  · refine ⟨0, by rw [h0]; rfl, by omega, ?_⟩
    have hn : rk l = [] := List.length_eq_zero_iff.1 h0
    rw [hn]; rfl
  · obtain ⟨m, hm⟩ : ∃ m, (rk l).length = m + 1 := ⟨(rk l).length - 1, by omega⟩
    obtain ⟨k1, k2, k3⟩ := rk_lt (l := l) (i := m) (by omega)
    refine ⟨(gi l (gnn (rk l) m)).toNat, ?_, by omega, ?_⟩
    · rw [hm, tbl_snoc (by omega)]
      show gi l (gnn (rk l) m) = _
      omega
    · have := dec_eq (bs := bs) (lo := (gi l (gnn (rk l) m)).toNat) hb (fun n => (hok n).2.1) (fun n => (hok n).2.2) (fun s hs => by
        obtain ⟨j, hj, rfl⟩ := hmem s hs
        rcases Nat.lt_or_ge j m with h | h
        · have := rk_mono h (by omega : m < (rk l).length); omega
        · obtain rfl : j = m := by omega
          omega) (.inr ⟨gnn (rk l) m, gnn_mem (by omega), by omega⟩) (gi l (gnn (rk l) m)).toNat 0 0 p (by omega)
      rw [hall] at this
      exact this

end Go.Proofs.Ytgjnfajdejkkjaa.VG

/-! ## One symbol is read as the document says. -/
namespace Go.Proofs.Ytgjnfajdejkkjaa.VG
open Go
set_option linter.unusedSimpArgs false
set_option linter.unusedVariables false
set_option maxRecDepth 20000

/-- The document's reader at p with the words' and the symbols' rows beside it. -/
def WdI (b : Nat) (vB : Value) (p : Nat) (e : Int) (cv rv : Value) (l : List Int) (rest : List It) : List It :=
  .blk b #[vB, .int .i64 p, .int .i64 e] :: .own 33 1 cv l.length (wdsV (cdW l)) :: .own 3 1 rv (rk l).length (natsV (rk l)) :: rest

theorem bitsW_le (bs : List Nat) : ∀ (m v p n : Nat), v < 2 ^ n → (bitsW bs m v p).1 < 2 ^ (n + m)
  | 0, v, p, n, h => by simpa [bitsW] using h
  | m + 1, v, p, n, h => by
    rw [bitsW]
    have hp : 2 ^ n ≤ 2 ^ (n + (m + 1)) := Nat.pow_le_pow_right (by omega) (by omega)
    split
    · exact Nat.lt_of_lt_of_le h hp
    · have hg := rGet_lt bs p 0 1
      have hg' : (rGet bs p 0 1).1 < 2 := hg
      have := bitsW_le bs m (2 * v + (rGet bs p 0 1).1) (rGet bs p 0 1).2.1 (n + 1) (by rw [Nat.pow_succ]; omega)
      rwa [show n + (m + 1) = n + 1 + m by omega]

set_option maxHeartbeats 8000000 in
theorem word_h {W w : World} {rest : List It} {b : Nat} {bs : List Nat} {p : Nat} {vB cv rv v : Value} {l : List Int} (H : Hp W w (WdI b vB p 0 cv rv l rest)) (hB : Rd (fun k => k < W.heap.size) W vB bs.length (bytesV bs)) (hfB : ∀ x ∈ bs, x < 256) (hle : p ≤ 8 * bs.length)
    (hsm : bs.length ≤ 17592186044416) (hl : l.length ≤ 1024) (hr : Rd (fun k => k < W.heap.size) W v l.length (intsV l)) :
    Calls Try.prog 48 [.pointer (some ⟨b, 0, none⟩), v, cv, rv].toArray w (Ret fun r w' => r = .tuple #[.int .i64 (decW l bs (rk l) 0 0 p).1.1, .int .i64 (decW l bs (rk l) 0 0 p).1.2] ∧
      (decW l bs (rk l) 0 0 p).2.1 ≤ 8 * bs.length ∧ Hp W w' (WdI b vB (decW l bs (rk l) 0 0 p).2.1 (decW l bs (rk l) 0 0 p).2.2 cv rv l rest)) := by
  refine F_sound c48 (by simp [fc48]) ?_
  obtain ⟨lS, lL⟩ := hr.sl
  have hN := rk_le l
  simp [fc48, s48]
  generalize hD : decW l bs (rk l) 0 0 p = D
  refine for_r (rk l).length (fun k env' w' => env' 0 = .pointer (some ⟨b, 0, none⟩) ∧ env' 1 = v ∧ env' 2 = cv ∧ env' 3 = rv ∧ env' 12 = .int .i64 k ∧ ∃ x n q, env' 10 = .int .u64 (x : Nat) ∧ env' 11 = .int .i64 (n : Nat) ∧ x < 2 ^ n ∧ n ≤ 24 ∧ (k < (rk l).length → (n : Int) ≤ gi l (gnn (rk l) k)) ∧ q ≤ 8 * bs.length ∧
    decW l bs ((rk l).drop k) n x q = D ∧ Hp W w' (WdI b vB q 0 cv rv l rest)) ?_ ?_ ?_
  · exact ⟨by simp, by simp, by simp, by simp, by simp, 0, 0, p, by simp, by simp, by simp, by omega, fun h => by have := rk_lt h; omega, hle, by simpa using hD, H⟩
  · rintro k env w1 hk ⟨e0, e1, e2, e3, e12, x, n, q, e10, e11, hx, hn, hng, hq, hd, H⟩
    have wk : IntKind.i64.wrap ((k : Int) + 1) = ((k + 1 : Nat) : Int) := by rw [wI (by omega) (by omega)]; omega
    obtain ⟨k1, k2, k3⟩ := rk_lt hk
    have hng := hng hk
    have hnx : k + 1 < (rk l).length → gi l (gnn (rk l) k) ≤ gi l (gnn (rk l) (k + 1)) := fun h => rk_mono (by omega) h
    rw [show (rk l).drop k = gnn (rk l) k :: (rk l).drop (k + 1) by rw [List.drop_eq_getElem_cons hk, gnn_get hk], decW] at hd
    obtain ⟨s, hs⟩ : ∃ s, gnn (rk l) k = s := ⟨_, rfl⟩
    rw [hs] at k1 k2 k3 hng hnx hd
    obtain ⟨m, hm⟩ : ∃ m : Nat, gi l s = m := ⟨(gi l s).toNat, by omega⟩
    rw [hm] at k2 k3 hng hnx hd
    rw [Int.toNat_natCast] at hd
    obtain ⟨rS, rL⟩ := (H.rd 2 rfl).sl
    simp [e3, e12, rS, rL]
    refine ite_r (t := true) (by simp; omega) (fun _ => ?_) (fun h => by cases h)
    show S.wp _ (S.blk 1 _ _) _ _ _
    rw [wp_blk]
    have hbw : (bitsW bs (m - n) x q).1 < 2 ^ m := by
      have := bitsW_le bs (m - n) x q n hx
      rwa [show n + (m - n) = m by omega] at this
    generalize hG : bitsW bs (m - n) x q = g at *
    refine for_r (m - n) (fun j env' w' => env' 0 = .pointer (some ⟨b, 0, none⟩) ∧ env' 1 = v ∧ env' 2 = cv ∧ env' 3 = rv ∧ env' 12 = .int .i64 k ∧ ∃ y z, env' 10 = .int .u64 (y : Nat) ∧ env' 11 = .int .i64 (n + j : Nat) ∧ y < 2 ^ (n + j) ∧ z ≤ 8 * bs.length ∧
      bitsW bs (m - n - j) y z = g ∧ Hp W w' (WdI b vB z 0 cv rv l rest)) ?_ ?_ ?_
    · exact ⟨by simp [e0], by simp [e1], by simp [e2], by simp [e3], by simp [e12], x, q, by simp [e10], by simp [e11], hx, hq, hG, H⟩
    · rintro j env w2 hj ⟨e0, e1, e2, e3, e12, y, z, e10, e11, hy, hz, hb, H⟩
      have wj : IntKind.i64.wrap (((n + j : Nat) : Int) + 1) = ((n + (j + 1) : Nat) : Int) := by rw [wI (by omega) (by omega)]; omega
      have hpow : 2 ^ (n + j) ≤ 2 ^ 24 := Nat.pow_le_pow_right (by omega) (by omega)
      obtain ⟨rS, rL⟩ := (H.rd 2 rfl).sl
      have cr := rdN (H.rd 2 rfl) k hk
      have pr := rdN_ptr (H.rd 2 rfl) (by omega)
      have cl := (hr.at H.mod).gi s k1
      have pl := hr.some (by omega)
      rw [hs] at cr
      rw [hm] at cl
      rw [show m - n - j = (m - n - (j + 1)) + 1 by omega, bitsW] at hb
      simp [e1, e3, e11, e12, rS, rL, lS, lL, cr, pr, cl, pl, hk, k1, -Int.natCast_add]
      refine ite_r (t := true) (by simp; omega) (fun _ => ?_) (fun h => by cases h)
      show S.wp _ (S.blk 3 _ _) _ _ _
      rw [wp_blk]
      obtain ⟨hY, upY⟩ := H.yr 0 rfl hB hfB hz hsm
      simp [e10, -Int.natCast_add]
      refine call_h (yget_c hY 1) (by simp [e0]) ?_
      rintro r w3 ⟨rfl, AY⟩
      replace H := upY _ _ _ AY
      have hz' := AY.1.le
      have hg2 := rGet_lt bs z 0 1
      rw [show ((1 : Nat) : Int) = 1 from rfl] at hg2
      generalize hR : rGet bs z 0 1 = gg at *
      obtain ⟨y1, z1, er⟩ := gg
      simp only at hb hg2 H hz'
      replace H : Hp W w3 (WdI b vB z1 er cv rv l rest) := H
      obtain ⟨xb, rfl⟩ : ∃ xb : Bool, y1 = xb.toNat := by
        have hg3 : y1 < 2 := hg2
        obtain rfl | rfl : y1 = 0 ∨ y1 = 1 := by omega
        · exact ⟨false, rfl⟩
        · exact ⟨true, rfl⟩
      have hpb := push_bit' y xb (by omega)
      have hx1 : xb.toNat ≤ 1 := by cases xb <;> simp
      have c2 := H.blk 0 rfl 2
      simp at c2
      simp [e0, e10, e11, hpb, wj, c2, -Int.natCast_add]
      by_cases her : er = 0
      · subst her
        simp only [ne_eq, not_true_eq_false, if_false] at hb
        refine ite_r (t := false) (by simp) (fun h => by cases h) (fun _ => ?_)
        simp [e0, e1, e2, e3, e12, -Int.natCast_add]
        refine ⟨2 * y + xb.toNat, rfl, by rw [← Nat.add_assoc, Nat.pow_succ]; omega, z1, hz', hb, H⟩
      · simp only [ne_eq, her, not_false_eq_true, if_true] at hb
        refine ite_r (t := true) (by simp [her]) (fun _ => ?_) (fun h => by cases h)
        subst hb
        simp only [ne_eq, her, not_false_eq_true, if_true] at hd
        subst hd
        have H := H.drew
        have c2 := H.blk 0 rfl 2
        simp at c2
        simp [wp_draw, e0, c2]
        exact ⟨hz', H⟩
    · rintro env w2 ⟨e0, e1, e2, e3, e12, y, z, e10, e11, hy, hz, hb, H⟩
      rw [show n + (m - n) = m by omega] at e11 hy
      rw [Nat.sub_self, bitsW] at hb
      subst hb
      simp only [ne_eq, not_true_eq_false, if_false] at hd
      obtain ⟨rS, rL⟩ := (H.rd 2 rfl).sl
      obtain ⟨cS, cL⟩ := (H.rd 1 rfl).sl
      have cr := rdN (H.rd 2 rfl) k hk
      have pr := rdN_ptr (H.rd 2 rfl) (by omega)
      have hcw : (cdW l).length = l.length := cdN_len l _
      have cc := rdW (H.rd 1 rfl) s (by rw [hcw]; exact k1)
      have pc := rdW_ptr (H.rd 1 rfl) (by rw [hcw]; omega)
      have cl := (hr.at H.mod).gi s k1
      have pl := hr.some (by omega)
      rw [hs] at cr
      rw [hm] at cl
      simp [e1, e3, e11, e12, rS, rL, lS, lL, cr, pr, cl, pl, hk, k1, -Int.natCast_add]
      refine ite_r (t := false) (by simp) (fun h => by cases h) (fun _ => ?_)
      simp [e2, e3, e10, e12, rS, rL, cS, cL, cr, pr, cc, pc, hk, k1]
      by_cases hw : gi (cdW l) s = (y : Int)
      · rw [if_pos hw] at hd
        subst hd
        refine ite_r (t := true) (by simp [hw]) (fun _ => ?_) (fun h => by cases h)
        simp [e3, e12, rS, rL, cr, pr, hk]
        exact ⟨hz, H⟩
      · rw [if_neg hw] at hd
        refine ite_r (t := false) (by simp [hw]) (fun h => by cases h) (fun _ => ?_)
        simp [e0, e1, e2, e3, e12, wk, -Int.natCast_add]
        exact ⟨by simp, y, e10, m, e11, hy, by omega, fun h => by have := hnx h; omega, z, hz, hd, H⟩
  · rintro env w1 ⟨e0, e1, e2, e3, e12, x, n, q, e10, e11, hx, hn, hng, hq, hd, H⟩
    obtain ⟨rS, rL⟩ := (H.rd 2 rfl).sl
    rw [List.drop_length, decW] at hd
    subst hd
    simp [e3, e12, rS, rL]
    refine ite_r (t := false) (by simp) (fun h => by cases h) (fun _ => ?_)
    simp
    exact ⟨hq, H⟩

end Go.Proofs.Ytgjnfajdejkkjaa.VG
