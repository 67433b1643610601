/-
  Match: the document's least distance, and its choice of a length.
-/
import Derived.Test.YtfanamibkgkaiaaDoorDk
namespace Go.Proofs.YtfanamibkgkaiaaDoor.VG
open Go
set_option linter.unusedSimpArgs false
set_option linter.unusedVariables false
set_option maxRecDepth 20000

theorem fdT_both (l : List Int) (a n : Nat) : ∀ i, (fdT l a i n = 0 ∧ ∀ d, 1 ≤ d → d ≤ i → runI l a d < n) ∨ (1 ≤ fdT l a i n ∧ fdT l a i n ≤ i ∧ n ≤ runI l a (fdT l a i n) ∧ ∀ d, 1 ≤ d → d < fdT l a i n → runI l a d < n)
  | 0 => .inl ⟨rfl, fun d h1 h2 => by omega⟩
  | i + 1 => by
    rw [fdT]
    rcases fdT_both l a n i with ⟨h0, h1⟩ | ⟨h0, h1, h2, h3⟩
    · rw [if_neg (by omega)]
      by_cases h2 : n ≤ runI l a (i + 1)
      · rw [if_pos h2]
        exact .inr ⟨by omega, Nat.le_refl _, h2, fun d hd1 hd2 => h1 d hd1 (by omega)⟩
      · rw [if_neg h2]
        refine .inl ⟨rfl, fun d hd1 hd2 => ?_⟩
        by_cases e : d = i + 1
        · subst e; omega
        · exact h1 d hd1 (by omega)
    · rw [if_pos (by omega)]
      exact .inr ⟨h0, by omega, h2, h3⟩
theorem fdT_spec {l : List Int} {a n i : Nat} (h : fdT l a i n ≠ 0) : 1 ≤ fdT l a i n ∧ fdT l a i n ≤ i ∧ n ≤ runI l a (fdT l a i n) ∧ ∀ d, 1 ≤ d → d < fdT l a i n → runI l a d < n := by
  rcases fdT_both l a n i with ⟨h0, _⟩ | h'
  · exact absurd h0 h
  · exact h'

set_option maxHeartbeats 4000000 in
theorem leastD_c {G : Nat → Prop} {w : World} {v : Value} {l : List Int} (hr : Rd G w v l.length (intsV l)) (hl : l.length ≤ 1000000) (a n : Nat) (ha : a < l.length) (hn : 1 ≤ n) (hroom : n ≤ roomN l a) :
    Calls Tryd.prog 37 [v, .int .i64 a, .int .i64 n].toArray w (Ret fun r w' => r = .int .i64 (fdT l a (min a 1024) n) ∧ Mod none' w w') := by
  refine F_sound c37 (by simp [fc37]) ?_
  obtain ⟨D, hD⟩ : ∃ D, D = min a 1024 := ⟨_, rfl⟩
  have h0 : fdT l a D n ≠ 0 := (fdT_iff l a hn D).2 (by rw [hD]; exact hroom)
  obtain ⟨h1, h2, h3, h4⟩ := fdT_spec h0
  rw [← hD]
  generalize fdT l a D n = q at *
  simp [fc37, s37]
  refine loop_r (fun m env' w' => ∃ d : Nat, m = q - d ∧ 1 ≤ d ∧ d ≤ q ∧ env' 0 = v ∧ env' 1 = .int .i64 a ∧ env' 2 = .int .i64 n ∧ env' 7 = .int .i64 d ∧ Mod none' w w') (q - 1) ?_ ?_
  · exact ⟨1, rfl, Nat.le_refl _, h1, by simp, by simp, by simp, by simp, Mod.refl _ _⟩
  · rintro m env w1 ⟨d, rfl, hd1, hdq, e0, e1, e2, e7, M1⟩
    have wd : IntKind.i64.wrap ((d : Int) + 1) = ((d + 1 : Nat) : Int) := by rw [wI (by omega) (by omega)]; omega
    refine callm (run_c (hr.at M1) hl a d (by omega) (by omega)) (by simp [e0, e1, e7]) ?_
    intro w2 M2
    by_cases hlt : runI l a d < n
    · have hdq' : d < q := by
        rcases Nat.lt_or_ge d q with h | h
        · exact h
        · have : d = q := by omega
          subst this; omega
      simp [e2]
      refine ite_r (t := true) (by simp [hlt]) (fun _ => ?_) (fun h => by cases h)
      simp [-Int.natCast_add, wp_blk, e7, wd]
      refine ⟨q - (d + 1), by omega, d + 1, rfl, by omega, by omega, ?_⟩
      simp [-Int.natCast_add, e0, e1, e2]
      exact M1.tr M2
    · have hq : d = q := by
        rcases Nat.lt_or_ge d q with h | h
        · exact absurd (h4 d hd1 h) hlt
        · omega
      subst hq
      simp [e2]
      refine ite_r (t := false) (by simp; omega) (fun h => by cases h) (fun _ => ?_)
      simp [e7]
      exact M1.tr M2

/-- The document's choice: from the longest copy down. -/
def db (f : Nat → Int) (n : Nat) : Nat → Int × Nat
  | 0 => (-1, 0)
  | i + 1 => if (db f n i).1 < 0 ∨ f (n - i) < (db f n i).1 then (f (n - i), n - i) else db f n i
def fin2 (b : Int × Nat) (c : Int) : Int × Nat := if b.1 < 0 ∨ c < b.1 then (c, 0) else b
def Arg (f : Nat → Int) (lo hi : Nat) (p : Int × Nat) : Prop := lo ≤ p.2 ∧ p.2 ≤ hi ∧ p.1 = f p.2 ∧ (∀ j, lo ≤ j → j ≤ hi → f p.2 ≤ f j) ∧ ∀ j, p.2 < j → j ≤ hi → f p.2 < f j
theorem Arg.one {f : Nat → Int} {lo hi : Nat} {p q : Int × Nat} (h : Arg f lo hi p) (k : Arg f lo hi q) : p = q := by
  obtain ⟨h1, h2, h3, h4, h5⟩ := h
  obtain ⟨k1, k2, k3, k4, k5⟩ := k
  have e : p.2 = q.2 := by
    rcases Nat.lt_trichotomy p.2 q.2 with hl | he | hl
    · have := h5 q.2 hl k2
      have := k4 p.2 h1 h2
      omega
    · exact he
    · have := k5 p.2 hl h2
      have := h4 q.2 k1 k2
      omega
  have e1 : p.1 = q.1 := by rw [h3, k3, e]
  exact Prod.ext e1 e
theorem db_arg {f : Nat → Int} (hf : ∀ n, 0 ≤ f n) {n : Nat} : ∀ i, 1 ≤ i → i ≤ n → Arg f (n - i + 1) n (db f n i)
  | 0, h, _ => by omega
  | i + 1, _, hi => by
    rw [db]
    by_cases h0 : i = 0
    · subst h0
      rw [if_pos (.inl (by simp [db]))]
      refine ⟨by simp; omega, by simp, rfl, fun j h1 h2 => ?_, fun j h1 h2 => ?_⟩
      · have h1' : n - (0 + 1) + 1 ≤ j := h1
        have : j = n := by omega
        subst this; simp
      · have h1' : n - 0 < j := h1
        omega
    · obtain ⟨h1, h2, h3, h4, h5⟩ := db_arg hf (n := n) i (by omega) (by omega)
      have hnn : ¬ (db f n i).1 < 0 := by rw [h3]; have := hf (db f n i).2; omega
      by_cases hlt : f (n - i) < (db f n i).1
      · rw [if_pos (.inr hlt)]
        refine ⟨by simp; omega, by simp, rfl, fun j g1 g2 => ?_, fun j g1 g2 => ?_⟩
        · by_cases e : j = n - i
          · subst e; simp
          · have := h4 j (by omega) g2
            simp; omega
        · have g1' : n - i < j := by simpa using g1
          have := h4 j (by omega) g2
          simp; omega
      · rw [if_neg (by rintro (h | h) <;> contradiction)]
        refine ⟨by omega, h2, h3, fun j g1 g2 => ?_, h5⟩
        by_cases e : j = n - i
        · subst e; omega
        · exact h4 j (by omega) g2
theorem bp_arg {f : Nat → Int} {c : Int} : ∀ m, ((bp f c m).2 = 0 ∧ (bp f c m).1 = c ∧ ∀ j, 3 ≤ j → j ≤ m → c < f j) ∨ (Arg f 3 m (bp f c m) ∧ (bp f c m).1 ≤ c)
  | 0 => .inl ⟨rfl, rfl, fun j h1 h2 => by omega⟩
  | m + 1 => by
    rw [bp]
    have hle := (bp_le f c m).1
    by_cases h : 3 ≤ m + 1 ∧ f (m + 1) ≤ (bp f c m).1
    · rw [if_pos h]
      refine .inr ⟨⟨h.1, Nat.le_refl _, rfl, fun j g1 g2 => ?_, fun j g1 g2 => by simp at g1; omega⟩, by simp; omega⟩
      by_cases e : j = m + 1
      · subst e; simp
      · have := bp_min (f := f) (c := c) g1 (show j ≤ m by omega)
        simp; omega
    · rw [if_neg h]
      rcases bp_arg (f := f) (c := c) m with ⟨h1, h2, h3⟩ | ⟨⟨h1, h2, h3, h4, h5⟩, h6⟩
      · refine .inl ⟨h1, h2, fun j g1 g2 => ?_⟩
        by_cases e : j = m + 1
        · subst e
          by_cases hh : f (m + 1) ≤ (bp f c m).1
          · exact absurd ⟨g1, hh⟩ h
          · omega
        · exact h3 j g1 (by omega)
      · have hgt : ¬ f (m + 1) ≤ (bp f c m).1 := fun hh => h ⟨by omega, hh⟩
        refine .inr ⟨⟨h1, by omega, h3, fun j g1 g2 => ?_, fun j g1 g2 => ?_⟩, h6⟩
        · by_cases e : j = m + 1
          · subst e; omega
          · exact h4 j g1 (by omega)
        · by_cases e : j = m + 1
          · subst e; omega
          · exact h5 j g1 (by omega)
theorem fin_bp {f : Nat → Int} {c : Int} (hf : ∀ n, 0 ≤ f n) {n : Nat} (hn : 3 ≤ n) : fin2 (db f n (n - 2)) c = bp f c n := by
  have hd := db_arg hf (n := n) (n - 2) (by omega) (by omega)
  rw [show n - (n - 2) + 1 = 3 by omega] at hd
  have hnn : ¬ (db f n (n - 2)).1 < 0 := by rw [hd.2.2.1]; have := hf (db f n (n - 2)).2; omega
  rcases bp_arg (f := f) (c := c) n with ⟨h1, h2, h3⟩ | ⟨h1, h2⟩
  · have := h3 (db f n (n - 2)).2 hd.1 hd.2.1
    rw [fin2, if_pos (.inr (by rw [hd.2.2.1]; exact this))]
    exact Prod.ext h2.symm h1.symm
  · have e := hd.one h1
    rw [fin2, if_neg, e]
    rintro (h | h)
    · exact hnn h
    · rw [e] at h; omega
theorem fin_zero (f : Nat → Int) (c : Int) (m : Nat) (hm : m < 3) : fin2 (-1, 0) c = bp f c m := by
  rw [bp_small _ _ _ hm]; rfl
theorem db_len {f : Nat → Int} (n : Nat) : ∀ i, (db f n i).2 ≤ n
  | 0 => by simp [db]
  | i + 1 => by
    rw [db]
    split
    · simp
    · exact db_len n i
theorem sT_room {l : List Int} {lit cp : Int} : ∀ k j, sT l lit cp k j = 0 ∨ (3 ≤ sT l lit cp k j ∧ sT l lit cp k j ≤ roomN l j)
  | 0, j => .inl rfl
  | k + 1, j => by
    rw [sT]
    split
    · rename_i h
      rw [h]
      obtain ⟨_, h2, h3⟩ := bp_le (fun n => cT l lit cp k (l.length - (k + 1) + n) + cp) (cT l lit cp k (l.length - (k + 1) + 1) + lit) (roomN l (l.length - (k + 1)))
      rcases h3 with h3 | h3
      · exact .inl h3
      · exact .inr ⟨h3, h2⟩
    · exact sT_room k j

end Go.Proofs.YtfanamibkgkaiaaDoor.VG
