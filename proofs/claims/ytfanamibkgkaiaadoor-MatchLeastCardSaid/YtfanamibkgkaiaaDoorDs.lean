/-
  Match: the row that tokens tell, in the document.
-/
import Derived.Test.YtfanamibkgkaiaaDoorDr
namespace Go.Proofs.YtfanamibkgkaiaaDoor.VG
open Go
set_option linter.unusedSimpArgs false
set_option linter.unusedVariables false
set_option maxRecDepth 20000

def exq (T : List (Int × Int × Int)) (most : Int) : Nat → Option (List Int)
  | 0 => some []
  | i + 1 => match exq T most i, T[i]? with
    | some L, some t => if (L.length : Int) < t.2.1 then none else if most < ((growL L t).length : Int) then none else some (growL L t)
    | _, _ => none
theorem exq_none {T : List (Int × Int × Int)} {most : Int} {i : Nat} (h : exq T most i = none) : ∀ j, i ≤ j → exq T most j = none
  | 0, hj => by
    have e : i = 0 := by omega
    subst e
    exact h
  | j + 1, hj => by
    by_cases e : i = j + 1
    · subst e; exact h
    · rw [exq, exq_none h j (by omega)]
def exR (T : List (Int × Int × Int)) (most : Int) : List Int × Bool :=
  if mayT T = false then ([], false) else match exq T most T.length with
    | some L => (L, true)
    | none => ([], false)
theorem copyN_pre (L : List Int) (d : Nat) : ∀ k, (copyN L d k).take L.length = L
  | 0 => List.take_length
  | k + 1 => by
    rw [copyN, List.take_append_of_le_length (by rw [copyN_len]; omega)]
    exact copyN_pre L d k
theorem copyN_gi {L : List Int} {d : Nat} (hd : 1 ≤ d) (hdl : d ≤ L.length) : ∀ k j, j < k → gi (copyN L d k) (L.length + j) = gi (copyN L d k) (L.length + j - d)
  | 0, j, h => by omega
  | k + 1, j, h => by
    have hl := copyN_len L d k
    rw [copyN]
    by_cases e : j = k
    · subst e
      rw [gi_app_left _ _ (L.length + j - d) (by omega), hl]
      have : gi (copyN L d j ++ [gi (copyN L d j) (L.length + j - d)]) (L.length + j) = gi (copyN L d j) (L.length + j - d) := by
        have e2 : (copyN L d j).length = L.length + j := hl
        rw [← e2]
        simp [gi]
      exact this
    · rw [gi_app_left _ _ (L.length + j) (by omega), gi_app_left _ _ (L.length + j - d) (by omega)]
      exact copyN_gi hd hdl k j (by omega)
theorem growL_pre (L : List Int) (t : Int × Int × Int) : (growL L t).take L.length = L := by
  unfold growL
  split
  · simp
  · exact copyN_pre _ _ _
theorem exq_tells {T : List (Int × Int × Int)} {most : Int} (hm : mayT T = true) : ∀ i L, i ≤ T.length → exq T most i = some L → Tells L 0 L.length (T.take i) ∧ ((L.length : Int) ≤ most ∨ L = [])
  | 0, L, _, h => by
    simp only [exq, Option.some.injEq] at h
    subst h
    exact ⟨rfl, .inr rfl⟩
  | i + 1, L, hi, h => by
    rw [exq] at h
    split at h
    · rename_i L' t hL' ht
      split at h
      · cases h
      rename_i h1
      split at h
      · cases h
      rename_i h2
      cases h
      obtain ⟨ih, _⟩ := exq_tells hm i L' (by omega) hL'
      refine ⟨?_, .inl (by omega)⟩
      have hpre := growL_pre L' t
      have hgl := growL_len L' t
      rw [List.take_add_one, ht, Option.toList_some]
      have hinto : Tells (growL L' t) (0 + 0) (0 + L'.length) (T.take i) := Tells.into (s := 0) (fun j hj => by
        rw [Nat.zero_add]
        refine ⟨by rw [hgl]; omega, ?_⟩
        have := gi_take (growL L' t) L'.length j hj
        rw [hpre] at this
        exact this.symm) ih
      rw [Nat.zero_add, Nat.zero_add] at hinto
      refine hinto.app ?_
      have htm : litB t = true ∨ copyB t = true := by
        rw [mayT, List.all_eq_true] at hm
        simpa using hm t (List.mem_of_getElem? ht)
      rw [Tells]
      cases hlit : litB t
      · right
        have hcp : copyB t = true := by
          rcases htm with h | h
          · rw [hlit] at h; cases h
          · exact h
        obtain ⟨⟨⟨⟨c1, c2⟩, c3⟩, c4⟩, c5⟩ : (((3 ≤ t.1 ∧ t.1 ≤ 64) ∧ 1 ≤ t.2.1) ∧ t.2.1 ≤ 1024) ∧ t.2.2 = 0 := by simpa [copyB] using hcp
        obtain ⟨n, hn⟩ : ∃ n : Nat, t.1 = n := ⟨t.1.toNat, by omega⟩
        obtain ⟨d, hd⟩ : ∃ d : Nat, t.2.1 = d := ⟨t.2.1.toNat, by omega⟩
        have hg : growL L' t = copyN L' d n := by rw [growL, if_neg (by simp [hlit]), hn, hd, Int.toNat_natCast, Int.toNat_natCast]
        have hcl := copyN_len L' d n
        refine ⟨n, d, Prod.ext hn (Prod.ext hd c5), by omega, by omega, by omega, by omega, by omega, ?_, ?_⟩
        · rw [hg]
          exact runI_ge (by omega) fun j hj => ⟨by omega, copyN_gi (by omega) (by omega) n j hj⟩
        · rw [hg, hcl]; rfl
      · left
        have hg : growL L' t = L' ++ [t.2.2] := by rw [growL, if_pos hlit]
        refine ⟨rfl, by rw [hg]; simp, by rw [hg]; simp [gi], by rw [hg]; simp [Tells]⟩
    · cases h
theorem exR_tells {T : List (Int × Int × Int)} {most : Int} {l : List Int} (h : exR T most = (l, true)) : Tells l 0 l.length T ∧ ((l.length : Int) ≤ most ∨ l = []) := by
  rw [exR] at h
  by_cases hm : mayT T = false
  · rw [if_pos hm] at h; cases h
  · rw [if_neg hm] at h
    have hm' : mayT T = true := by simpa using hm
    split at h
    · rename_i L hL
      cases h
      have := exq_tells hm' T.length _ (Nat.le_refl _) hL
      rwa [List.take_length] at this
    · cases h

end Go.Proofs.YtfanamibkgkaiaaDoor.VG
