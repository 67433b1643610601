/-
  The document's search for a symbol, and the table's: one.
-/
import Derived.Test.YtgjnfajdejkkjaaQt
namespace Go.Proofs.Ytgjnfajdejkkjaa.VG
open Go
set_option linter.unusedSimpArgs false
set_option linter.unusedVariables false
set_option maxRecDepth 20000

def bitsW (bs : List Nat) : Nat → Nat → Nat → Nat × Nat × Int
  | 0, v, p => (v, p, 0)
  | m + 1, v, p => if (rGet bs p 0 1).2.2 ≠ 0 then (v, (rGet bs p 0 1).2.1, (rGet bs p 0 1).2.2) else bitsW bs m (2 * v + (rGet bs p 0 1).1) (rGet bs p 0 1).2.1
def decW (l : List Int) (bs : List Nat) : List Nat → Nat → Nat → Nat → (Int × Int) × Nat × Int
  | [], _, _, p => ((0, 2), p, 0)
  | s :: r, n, v, p =>
    let g := bitsW bs ((gi l s).toNat - n) v p
    if g.2.2 ≠ 0 then ((0, g.2.2), g.2.1, g.2.2)
    else if gi (cdW l) s = g.1 then ((s, 0), g.2.1, 0) else decW l bs r (gi l s).toNat g.1 g.2.1

theorem decW_same {l : List Int} {bs : List Nat} {n v p : Nat} : ∀ (A r : List Nat), (∀ s ∈ A, gi l s = (n : Int)) → decW l bs (A ++ r) n v p = match A.find? (fun s => decide (gi (cdW l) s = v)) with
    | some s => ((s, 0), p, 0)
    | none => decW l bs r n v p
  | [], r, _ => rfl
  | s :: A, r, h => by
    have hs := h s (by simp)
    rw [List.cons_append, decW, hs, Int.toNat_natCast, Nat.sub_self]
    have ih := decW_same (bs := bs) (v := v) (p := p) A r (fun x hx => h x (by simp [hx]))
    rw [List.find?_cons]
    by_cases hw : gi (cdW l) s = (v : Int)
    · simp [bitsW, hw]
    · simp only [bitsW, hw, decide_false, ne_eq, not_true_eq_false, if_false]
      exact ih
/-- One bit more, where no symbol is so short. -/
theorem decW_bit {l : List Int} {bs : List Nat} {n v p s : Nat} {r : List Nat} (h : n < (gi l s).toNat) : decW l bs (s :: r) n v p =
    if (rGet bs p 0 1).2.2 ≠ 0 then ((0, (rGet bs p 0 1).2.2), (rGet bs p 0 1).2.1, (rGet bs p 0 1).2.2) else decW l bs (s :: r) (n + 1) (2 * v + (rGet bs p 0 1).1) (rGet bs p 0 1).2.1 := by
  obtain ⟨m, hm⟩ : ∃ m, (gi l s).toNat - n = m + 1 := ⟨(gi l s).toNat - n - 1, by omega⟩
  rw [decW, hm, bitsW]
  by_cases he : (rGet bs p 0 1).2.2 ≠ 0
  · simp only [if_pos he]
  · simp only [if_neg he]
    rw [decW, show (gi l s).toNat - (n + 1) = m by omega]


theorem filter_next {g : Nat → Int} (n : Nat) : ∀ r : List Nat, r.Pairwise (fun a b => g a ≤ g b) → r.filter (fun s => decide ((n : Int) < g s)) = r.filter (fun s => decide (g s = ((n + 1 : Nat) : Int))) ++ r.filter (fun s => decide (((n + 1 : Nat) : Int) < g s))
  | [], _ => rfl
  | a :: r, h => by
    rw [List.pairwise_cons] at h
    have ih := filter_next n r h.2
    by_cases h1 : (n : Int) < g a
    · by_cases h2 : g a = ((n + 1 : Nat) : Int)
      · rw [List.filter_cons_of_pos (by simpa using h1), List.filter_cons_of_pos (by simpa using h2), List.filter_cons_of_neg (by simp; omega), ih]
        rfl
      · have hno : r.filter (fun s => decide (g s = ((n + 1 : Nat) : Int))) = [] := by
          rw [List.filter_eq_nil_iff]
          intro b hb
          have := h.1 b hb
          simp only [decide_eq_true_eq]
          omega
        rw [hno, List.nil_append] at ih
        rw [List.filter_cons_of_pos (by simpa using h1), List.filter_cons_of_neg (by simp only [decide_eq_true_eq]; exact h2), List.filter_cons_of_pos (by simp only [decide_eq_true_eq]; omega), hno, ih]
        rfl
    · rw [List.filter_cons_of_neg (by simpa using h1), List.filter_cons_of_neg (by simp only [decide_eq_true_eq]; omega), List.filter_cons_of_neg (by simp only [decide_eq_true_eq]; omega), ih]
theorem look_find {c : Nat → Int} (A : List Nat) (k : Int) (hk : 0 ≤ k) (v : Nat) : (∀ (j s : Nat), A[j]? = some s → c s = k + (j : Int)) → (if (v : Int) < k then none else A[v - k.toNat]?) = A.find? (fun s => decide (c s = v)) := by
  induction A generalizing k with
  | nil => intro _; simp
  | cons a r ih =>
    intro h
    have ha := h 0 a rfl
    have ih' := ih (k + 1) (by omega) (fun j s hs => by
      have := h (j + 1) s hs
      omega)
    rw [List.find?_cons]
    by_cases hv : (v : Int) = k
    · rw [if_neg (by omega), show v - k.toNat = 0 by omega]
      have : decide (c a = (v : Int)) = true := by simp; omega
      rw [this]; rfl
    · have : decide (c a = (v : Int)) = false := by simp; omega
      rw [this, ← ih']
      by_cases hlt : (v : Int) < k
      · rw [if_pos hlt, if_pos (by omega)]
      · rw [if_neg hlt, if_neg (by omega), show v - k.toNat = (v - (k + 1).toNat) + 1 by omega]
        rfl

theorem dec_eq {l : List Int} {bs : List Nat} {fi : Nat → Int} {sy : Nat → List Nat} {lo : Nat} (hb : ∀ n, sy n = (rk l).filter (fun s => decide (gi l s = (n : Int)))) (hc : ∀ (n j s : Nat), (sy n)[j]? = some s → gi (cdW l) s = fi n + (j : Int))
    (hd : ∀ n, 0 ≤ fi n) (hlo : ∀ s ∈ rk l, gi l s ≤ lo) (hex : lo = 0 ∨ ∃ s ∈ rk l, gi l s = lo) : ∀ (f n v p : Nat), lo = n + f → decT fi sy bs f (n + 1) v p = decW l bs ((rk l).filter (fun s => decide ((n : Int) < gi l s))) n v p
  | 0, n, v, p, h => by
    have : (rk l).filter (fun s => decide ((n : Int) < gi l s)) = [] := by
      rw [List.filter_eq_nil_iff]
      intro s hs
      have := hlo s hs
      simp only [decide_eq_true_eq]
      omega
    rw [this]; rfl
  | f + 1, n, v, p, h => by
    have ih := fun v p => dec_eq (bs := bs) hb hc hd hlo hex f (n + 1) v p (by omega)
    obtain ⟨s, hs, hg⟩ : ∃ s ∈ rk l, gi l s = lo := hex.resolve_left (by omega)
    have hfn := filter_next (g := gi l) n (rk l) (rkN_pw l 24)
    have hmem : s ∈ (rk l).filter (fun s => decide ((n : Int) < gi l s)) := by
      rw [List.mem_filter]; exact ⟨hs, by simp; omega⟩
    have hall : ∀ x ∈ (rk l).filter (fun s => decide ((n : Int) < gi l s)), (n : Int) < gi l x := fun x hx => by
      rw [List.mem_filter] at hx; simpa using hx.2
    rw [decT]
    rcases hR : (rk l).filter (fun s => decide ((n : Int) < gi l s)) with _ | ⟨x, R⟩
    · rw [hR] at hmem; cases hmem
    · have hx := hall x (by rw [hR]; simp)
      rw [decW_bit (by omega)]
      by_cases he : (rGet bs p 0 1).2.2 ≠ 0
      · rw [if_pos he, if_pos he]
      · rw [if_neg he, if_neg he, ← hR, hfn, ← hb (n + 1), decW_same _ _ (fun y hy => by rw [hb, List.mem_filter] at hy; simpa using hy.2)]
        have hl := look_find (c := gi (cdW l)) (sy (n + 1)) (fi (n + 1)) (hd _) (2 * v + (rGet bs p 0 1).1) (hc (n + 1))
        unfold lookT
        rw [hl]
        cases (sy (n + 1)).find? (fun s => decide (gi (cdW l) s = ((2 * v + (rGet bs p 0 1).1 : Nat) : Int))) with
        | some s => rfl
        | none => exact ih _ _

end Go.Proofs.Ytgjnfajdejkkjaa.VG
