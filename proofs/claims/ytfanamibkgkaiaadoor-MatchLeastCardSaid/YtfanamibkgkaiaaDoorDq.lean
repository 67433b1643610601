/-
  Match: tokens that tell a row, and what they cost at least.
-/
import Derived.Test.YtfanamibkgkaiaaDoorDp
namespace Go.Proofs.YtfanamibkgkaiaaDoor.VG
open Go
set_option linter.unusedSimpArgs false
set_option linter.unusedVariables false
set_option maxRecDepth 20000

theorem runF_spec (l : List Int) (a d : Nat) : ∀ f n j, n ≤ j → j < runF l a d f n → a + j < l.length ∧ gi l (a + j) = gi l (a + j - d)
  | 0, n, j, h1, h2 => by simp [runF] at h2; omega
  | f + 1, n, j, h1, h2 => by
    rw [runF] at h2
    by_cases hc : a + n < l.length ∧ gi l (a + n) = gi l (a + n - d)
    · rw [if_pos hc] at h2
      by_cases e : j = n
      · subst e; exact hc
      · exact runF_spec l a d f (n + 1) j (by omega) h2
    · rw [if_neg hc] at h2; omega
theorem runI_spec {l : List Int} {a d j : Nat} (h : j < runI l a d) : a + j < l.length ∧ gi l (a + j) = gi l (a + j - d) := runF_spec l a d 64 0 j (Nat.zero_le _) h
theorem runF_ge (l : List Int) (a d m : Nat) (hall : ∀ j, j < m → a + j < l.length ∧ gi l (a + j) = gi l (a + j - d)) : ∀ f n, n ≤ m → min m (n + f) ≤ runF l a d f n
  | 0, n, h => by rw [runF]; omega
  | f + 1, n, h => by
    rw [runF]
    by_cases e : n < m
    · rw [if_pos (hall n e)]
      have := runF_ge l a d m hall f (n + 1) e
      omega
    · have hnm : n = m := by omega
      split
      · have := (runF_le l a d f (n + 1)).1
        omega
      · omega
theorem runI_ge {l : List Int} {a d m : Nat} (hm : m ≤ 64) (hall : ∀ j, j < m → a + j < l.length ∧ gi l (a + j) = gi l (a + j - d)) : m ≤ runI l a d := by
  have := runF_ge l a d m hall 64 0 (Nat.zero_le _)
  show m ≤ runF l a d 64 0
  omega
theorem lgT_ge (l : List Int) (a : Nat) {d : Nat} (h1 : 1 ≤ d) : ∀ i, d ≤ i → runI l a d ≤ (lgT l a i).1
  | 0, h => by omega
  | i + 1, h => by
    have hs := lgT_step l a i
    by_cases e : d = i + 1
    · subst e; omega
    · have := lgT_ge l a h1 i (by omega)
      omega
theorem lgT_run (l : List Int) (a : Nat) : ∀ i, 0 < (lgT l a i).1 → 1 ≤ (lgT l a i).2 ∧ (lgT l a i).2 ≤ i ∧ runI l a (lgT l a i).2 = (lgT l a i).1
  | 0, h => by simp [lgT] at h
  | i + 1, h => by
    rw [lgT] at h ⊢
    by_cases hc : (lgT l a i).1 < runI l a (i + 1)
    · rw [if_pos hc]
      exact ⟨by simp, by simp, rfl⟩
    · rw [if_neg hc] at h ⊢
      obtain ⟨h1, h2, h3⟩ := lgT_run l a i h
      exact ⟨h1, by omega, h3⟩

/-- Tokens that tell a row's samples from a to b. -/
def Tells (l : List Int) : Nat → Nat → List (Int × Int × Int) → Prop
  | a, b, [] => a = b
  | a, b, t :: r => (litB t = true ∧ a < l.length ∧ t.2.2 = gi l a ∧ Tells l (a + 1) b r) ∨ ∃ n d : Nat, t = ((n : Int), (d : Int), 0) ∧ 3 ≤ n ∧ n ≤ 64 ∧ 1 ≤ d ∧ d ≤ 1024 ∧ d ≤ a ∧ n ≤ runI l a d ∧ Tells l (a + n) b r
theorem lit_not {n d : Nat} (h : 3 ≤ n) : litB ((n : Int), (d : Int), 0) = false := by simp [litB]; omega
theorem Tells.app {l : List Int} : ∀ {T : List (Int × Int × Int)} {a b c : Nat} {U : List (Int × Int × Int)}, Tells l a b T → Tells l b c U → Tells l a c (T ++ U)
  | [], a, b, c, U, h, k => by rw [Tells] at h; subst h; exact k
  | t :: r, a, b, c, U, h, k => by
    rw [Tells] at h
    rw [List.cons_append, Tells]
    rcases h with ⟨h1, h2, h3, h4⟩ | ⟨n, d, h1, h2, h3, h4, h5, h6, h7, h8⟩
    · exact .inl ⟨h1, h2, h3, h4.app k⟩
    · exact .inr ⟨n, d, h1, h2, h3, h4, h5, h6, h7, h8.app k⟩
/-- The same tokens in a row that holds the row. -/
theorem Tells.into {l m : List Int} {s : Nat} (hs : ∀ i, i < l.length → s + i < m.length ∧ gi m (s + i) = gi l i) : ∀ {T : List (Int × Int × Int)} {a b : Nat}, Tells l a b T → Tells m (s + a) (s + b) T
  | [], a, b, h => by rw [Tells] at h ⊢; omega
  | t :: r, a, b, h => by
    rw [Tells] at h
    rw [Tells]
    rcases h with ⟨h1, h2, h3, h4⟩ | ⟨n, d, h1, h2, h3, h4, h5, h6, h7, h8⟩
    · exact .inl ⟨h1, (hs a h2).1, by rw [h3, (hs a h2).2], Tells.into hs h4⟩
    · refine .inr ⟨n, d, h1, h2, h3, h4, h5, by omega, ?_, by have := Tells.into hs h8; rwa [show s + (a + n) = s + a + n by omega] at this⟩
      refine runI_ge h3 fun j hj => ?_
      obtain ⟨q1, q2⟩ := runI_spec (show j < runI l a d by omega)
      obtain ⟨r1, r2⟩ := hs (a + j) q1
      obtain ⟨r3, r4⟩ := hs (a + j - d) (by omega)
      rw [show s + a + j = s + (a + j) by omega, show s + (a + j) - d = s + (a + j - d) by omega, r2, r4]
      exact ⟨r1, q2⟩
theorem Tells.may {l : List Int} : ∀ {T : List (Int × Int × Int)} {a b : Nat}, Tells l a b T → mayT T = true
  | [], _, _, _ => rfl
  | t :: r, a, b, h => by
    rw [Tells] at h
    rw [mayT, List.all_cons]
    rcases h with ⟨h1, h2, h3, h4⟩ | ⟨n, d, h1, h2, h3, h4, h5, h6, h7, h8⟩
    · have := h4.may
      rw [mayT] at this
      rw [this, h1]; rfl
    · have := h8.may
      rw [mayT] at this
      have hc : copyB t = true := by rw [h1]; simp [copyB]; omega
      rw [this, hc]; simp
theorem Tells.le {l : List Int} : ∀ {T : List (Int × Int × Int)} {a b : Nat}, Tells l a b T → a ≤ b
  | [], a, b, h => by rw [Tells] at h; omega
  | t :: r, a, b, h => by
    rw [Tells] at h
    rcases h with ⟨h1, h2, h3, h4⟩ | ⟨n, d, h1, h2, h3, h4, h5, h6, h7, h8⟩
    · have := h4.le; omega
    · have := h8.le; omega
theorem copy_take {l : List Int} {a d n : Nat} (hd : 1 ≤ d) (hda : d ≤ a) (hn : n ≤ runI l a d) (hal : a ≤ l.length) : ∀ k, k ≤ n → copyN (l.take a) d k = l.take (a + k)
  | 0, _ => rfl
  | k + 1, hk => by
    obtain ⟨h1, h2⟩ := runI_spec (show k < runI l a d by omega)
    rw [copyN, copy_take hd hda hn hal k (by omega), List.length_take, Nat.min_eq_left (by omega), gi_take _ _ _ (by omega), ← h2, ← gi_take_snoc l (a + k) h1]
    rfl
theorem Tells.exp {l : List Int} : ∀ {B : List (Int × Int × Int)} {A : List (Int × Int × Int)} {a : Nat}, Tells l a l.length B → expTo (A ++ B) l.length A.length = some (l.take a) → expTo (A ++ B) l.length (A ++ B).length = some l
  | [], A, a, h, k => by
    rw [Tells] at h
    subst h
    rw [List.append_nil] at k ⊢
    rw [k, List.take_length]
  | t :: r, A, a, h, k => by
    have hle := h.le
    rw [Tells] at h
    have e : A ++ t :: r = (A ++ [t]) ++ r := by simp
    have hget : (A ++ t :: r)[A.length]? = some t := by simp
    have hlen : (l.take a).length = a := by rw [List.length_take]; omega
    have step : ∀ a', growL (l.take a) t = l.take a' → max t.1 1 ≤ (l.length : Int) - a → t.2.1 ≤ a → expTo (A ++ t :: r) l.length (A ++ [t]).length = some (l.take a') := by
      intro a' h1 h2 h3
      rw [List.length_append, List.length_singleton, expTo, k, hget]
      simp only []
      rw [hlen, if_neg (by omega), h1]
    rcases h with ⟨h1, h2, h3, h4⟩ | ⟨n, d, h1, h2, h3, h4, h5, h6, h7, h8⟩
    · have hz : t.1 = 0 ∧ t.2.1 = 0 := by simpa [litB] using h1
      have := step (a + 1) (by rw [growL, if_pos h1, h3, ← gi_take_snoc l a h2]) (by omega) (by omega)
      rw [e] at this ⊢
      exact h4.exp this
    · have hroom := h8.le
      have := step (a + n) (by rw [growL, if_neg (by rw [h1, lit_not h2]; simp), h1]; exact copy_take h4 h6 h7 hle n (Nat.le_refl _)) (by rw [h1]; simp only []; omega) (by rw [h1]; simp only []; omega)
      rw [e] at this ⊢
      exact h8.exp this
theorem Tells.expR {l : List Int} {T : List (Int × Int × Int)} (h : Tells l 0 l.length T) : expR T l.length = (l, true) := by
  have := h.exp (A := []) rfl
  rw [List.nil_append] at this
  rw [VG.expR, if_neg (by rw [h.may]; simp), this]

theorem gT_tells {l : List Int} : ∀ f a, l.length - a ≤ f → a ≤ l.length → Tells l a l.length (gT l f a)
  | 0, a, h, ha => by rw [gT, Tells]; omega
  | f + 1, a, h, ha => by
    rw [gT]
    by_cases hal : a < l.length
    · rw [if_pos hal]
      by_cases h0 : (longN l a).1 = 0
      · rw [if_pos h0, Tells]
        exact .inl ⟨rfl, hal, rfl, gT_tells f (a + 1) (by omega) (by omega)⟩
      · rw [if_neg h0, Tells]
        have hl : longN l a = lgT l a (min a 1024) ∧ 3 ≤ (lgT l a (min a 1024)).1 := by
          rw [longN] at h0 ⊢
          by_cases h3 : (lgT l a (min a 1024)).1 < 3
          · rw [if_pos h3] at h0; exact absurd rfl h0
          · rw [if_neg h3]; exact ⟨rfl, by omega⟩
        obtain ⟨r1, r2, r3⟩ := lgT_run l a (min a 1024) (by omega)
        have hrm := lgT_room ha (min a 1024)
        have h64 := (lgT_le l a (min a 1024)).1
        rw [hl.1]
        exact .inr ⟨_, _, rfl, hl.2, h64, r1, by omega, by omega, by omega, gT_tells f _ (by omega) (by omega)⟩
    · rw [if_neg hal, Tells]; omega
theorem greedy_tells (l : List Int) : Tells l 0 l.length (greedyL l) := gT_tells l.length 0 (by omega) (by omega)
theorem lT_tells {l : List Int} {s : Nat → Nat} (hs : ∀ j, s j = 0 ∨ (3 ≤ s j ∧ s j ≤ roomN l j)) : ∀ f a, l.length - a ≤ f → a ≤ l.length → Tells l a l.length (lT l s f a)
  | 0, a, h, ha => by rw [lT, Tells]; omega
  | f + 1, a, h, ha => by
    rw [lT]
    by_cases hal : a < l.length
    · rw [if_pos hal]
      rcases hs a with h0 | ⟨h3, hr⟩
      · rw [h0, show max 0 1 = 1 from rfl, Tells]
        exact .inl ⟨rfl, hal, rfl, lT_tells hs f (a + 1) (by omega) (by omega)⟩
      · have hrm := roomN_room ha
        have h64 := roomN_le l a
        rw [show max (s a) 1 = s a by omega, tokOf, if_neg (by omega), Tells]
        have hne := (fdT_iff l a (n := s a) (by omega) (min a 1024)).2 hr
        obtain ⟨r1, r2, r3, _⟩ := fdT_spec hne
        exact .inr ⟨_, _, rfl, h3, by omega, r1, by omega, by omega, r3, lT_tells hs f _ (by omega) (by omega)⟩
    · rw [if_neg hal, Tells]; omega
theorem least_tells (l : List Int) (lit cp : Int) : Tells l 0 l.length (leastL l lit cp) := lT_tells (fun j => sT_room _ _) l.length 0 (by omega) (by omega)

/-- The least cost from a place on. -/
def cM (l : List Int) (lit cp : Int) (a : Nat) : Int := cT l lit cp l.length a
theorem cT_stay {l : List Int} {lit cp : Int} {j : Nat} : ∀ k i, l.length - k ≤ j → k + i ≤ l.length → cT l lit cp (k + i) j = cT l lit cp k j
  | k, 0, _, _ => rfl
  | k, i + 1, h, hk => by
    rw [show k + (i + 1) = (k + i) + 1 by omega, cT, if_neg (by omega)]
    exact cT_stay k i h (by omega)
theorem cM_end (l : List Int) (lit cp : Int) : cM l lit cp l.length = 0 := by
  have := cT_stay (l := l) (lit := lit) (cp := cp) (j := l.length) 0 l.length (by omega) (by omega)
  rw [Nat.zero_add] at this
  rw [cM, this]; rfl
theorem cM_rec {l : List Int} {lit cp : Int} {a : Nat} (ha : a < l.length) :
    cM l lit cp a = (bp (fun n => cM l lit cp (a + n) + cp) (cM l lit cp (a + 1) + lit) (roomN l a)).1 ∧ sT l lit cp l.length a = (bp (fun n => cM l lit cp (a + n) + cp) (cM l lit cp (a + 1) + lit) (roomN l a)).2 := by
  obtain ⟨k, hk⟩ : ∃ k, k = l.length - (a + 1) := ⟨_, rfl⟩
  have ea : a = l.length - (k + 1) := by omega
  have hc : ∀ n, 1 ≤ n → cT l lit cp k (a + n) = cM l lit cp (a + n) := fun n hn => by
    have := cT_stay (l := l) (lit := lit) (cp := cp) (j := a + n) k (l.length - k) (by omega) (by omega)
    rw [show k + (l.length - k) = l.length by omega] at this
    exact this.symm
  have e1 : cM l lit cp a = cT l lit cp (k + 1) a := by
    have := cT_stay (l := l) (lit := lit) (cp := cp) (j := a) (k + 1) (l.length - (k + 1)) (by omega) (by omega)
    rwa [show k + 1 + (l.length - (k + 1)) = l.length by omega] at this
  have sst : ∀ i, (k + 1) + i ≤ l.length → sT l lit cp ((k + 1) + i) a = sT l lit cp (k + 1) a := by
    intro i
    induction i with
    | zero => intro _; rfl
    | succ i ih =>
      intro hi
      rw [show k + 1 + (i + 1) = (k + 1 + i) + 1 by omega, sT, if_neg (by omega)]
      exact ih (by omega)
  have e2 : sT l lit cp l.length a = sT l lit cp (k + 1) a := by
    have := sst (l.length - (k + 1)) (by omega)
    rwa [show k + 1 + (l.length - (k + 1)) = l.length by omega] at this
  have hb : ∀ m, bp (fun n => cT l lit cp k (a + n) + cp) (cT l lit cp k (a + 1) + lit) m = bp (fun n => cM l lit cp (a + n) + cp) (cM l lit cp (a + 1) + lit) m := by
    intro m
    rw [hc 1 (Nat.le_refl _)]
    induction m with
    | zero => rfl
    | succ m ih => rw [bp, bp, ih, hc (m + 1) (by omega)]
  rw [e1, e2, cT, sT, if_pos ea, if_pos ea, ← ea, hb]
  exact ⟨rfl, rfl⟩
theorem cM_tells {l : List Int} {lit cp : Int} : ∀ {T : List (Int × Int × Int)} {a : Nat}, Tells l a l.length T → a ≤ l.length → cM l lit cp a ≤ sumT lit cp T
  | [], a, h, _ => by
    rw [Tells] at h
    subst h
    rw [cM_end, sumT]
    exact Int.le_refl _
  | t :: r, a, h, _ => by
    rw [Tells] at h
    rw [sumT]
    rcases h with ⟨h1, h2, h3, h4⟩ | ⟨n, d, h1, h2, h3, h4, h5, h6, h7, h8⟩
    · have ih := cM_tells (lit := lit) (cp := cp) h4 (by omega)
      have := (bp_le (fun n => cM l lit cp (a + n) + cp) (cM l lit cp (a + 1) + lit) (roomN l a)).1
      rw [← (cM_rec h2).1] at this
      rw [if_pos h1]
      omega
    · have hal : a < l.length := by
        have := (runI_spec (show 0 < runI l a d by omega)).1
        omega
      have hle := h8.le
      have ih := cM_tells (lit := lit) (cp := cp) h8 hle
      have hr := lgT_ge l a h4 (min a 1024) (by omega)
      have := bp_min (f := fun n => cM l lit cp (a + n) + cp) (c := cM l lit cp (a + 1) + lit) (m := roomN l a) h2 (by rw [roomN]; omega)
      rw [← (cM_rec hal).1] at this
      rw [if_neg (by rw [h1, lit_not h2]; simp)]
      omega
theorem cM_sum {l : List Int} {lit cp : Int} : ∀ f a, l.length - a ≤ f → a ≤ l.length → sumT lit cp (lT l (sT l lit cp l.length) f a) = cM l lit cp a
  | 0, a, h, ha => by
    obtain rfl : a = l.length := by omega
    rw [lT, cM_end, sumT]
  | f + 1, a, h, ha => by
    rw [lT]
    by_cases hal : a < l.length
    · rw [if_pos hal, sumT]
      obtain ⟨r1, r2⟩ := cM_rec (lit := lit) (cp := cp) hal
      rcases bp_val (f := fun n => cM l lit cp (a + n) + cp) (c := cM l lit cp (a + 1) + lit) (roomN l a) with ⟨h0, hc⟩ | ⟨h3, hc⟩
      · rw [← r2] at h0
        rw [← r1] at hc
        rw [h0, show max 0 1 = 1 from rfl, cM_sum f (a + 1) (by omega) (by omega), hc, if_pos (by rfl)]
        omega
      · have hrm := roomN_room ha
        have hb := (bp_le (fun n => cM l lit cp (a + n) + cp) (cM l lit cp (a + 1) + lit) (roomN l a)).2.1
        rw [← r2] at h3 hb hc
        rw [← r1] at hc
        rw [show max (sT l lit cp l.length a) 1 = sT l lit cp l.length a by omega, cM_sum f _ (by omega) (by omega), hc]
        have ht : litB (tokOf l a (sT l lit cp l.length a)) = false := by rw [tokOf, if_neg (by omega)]; exact lit_not h3
        rw [ht]
        simp only [Bool.false_eq_true, if_false]
        omega
    · rw [if_neg hal]
      obtain rfl : a = l.length := by omega
      rw [cM_end, sumT]
theorem least_sum (l : List Int) (lit cp : Int) : sumT lit cp (leastL l lit cp) = cM l lit cp 0 := cM_sum l.length 0 (by omega) (by omega)
theorem cM_lits {l : List Int} {lit cp : Int} : ∀ k, k ≤ l.length → cM l lit cp (l.length - k) ≤ lit * k
  | 0, _ => by rw [Nat.sub_zero, cM_end]; simp
  | k + 1, h => by
    have ih := cM_lits (l := l) (lit := lit) (cp := cp) k (by omega)
    have := (bp_le (fun n => cM l lit cp (l.length - (k + 1) + n) + cp) (cM l lit cp (l.length - (k + 1) + 1) + lit) (roomN l (l.length - (k + 1)))).1
    rw [← (cM_rec (by omega)).1, show l.length - (k + 1) + 1 = l.length - k by omega] at this
    have e : lit * ((k + 1 : Nat) : Int) = lit * k + lit := by rw [Int.natCast_add, Int.mul_add]; simp
    rw [e]
    omega
theorem cost_tells {l : List Int} {T : List (Int × Int × Int)} {a b : Nat} {lit cp : Int} (h : Tells l a b T) (hb : costBad lit cp = false) : costT T lit cp = sumT lit cp T := by
  rw [costT, if_neg (by rw [h.may, hb]; simp)]
/-- No tokens that tell a row cost less than the least ones. -/
theorem least_le {l : List Int} {T : List (Int × Int × Int)} {lit cp : Int} (h : Tells l 0 l.length T) : sumT lit cp (leastL l lit cp) ≤ sumT lit cp T := by
  rw [least_sum]
  exact cM_tells h (by omega)
theorem least_lits (l : List Int) (lit cp : Int) : sumT lit cp (leastL l lit cp) ≤ lit * l.length := by
  have := cM_lits (l := l) (lit := lit) (cp := cp) l.length (Nat.le_refl _)
  rw [Nat.sub_self] at this
  rw [least_sum]
  exact this
theorem least_parts {l : List Int} {k : Nat} (hk : k ≤ l.length) (lit cp : Int) : sumT lit cp (leastL l lit cp) ≤ sumT lit cp (leastL ((l.take k).drop 0) lit cp) + sumT lit cp (leastL ((l.take l.length).drop k) lit cp) := by
  rw [List.drop_zero, List.take_length]
  have h1 : Tells l (0 + 0) (0 + (l.take k).length) (leastL (l.take k) lit cp) := Tells.into (s := 0) (fun i hi => by
    rw [List.length_take] at hi
    rw [Nat.zero_add, gi_take _ _ _ (by omega)]
    exact ⟨by omega, rfl⟩) (least_tells (l.take k) lit cp)
  have h2 : Tells l (k + 0) (k + (l.drop k).length) (leastL (l.drop k) lit cp) := Tells.into (s := k) (fun i hi => by
    rw [List.length_drop] at hi
    refine ⟨by omega, ?_⟩
    simp [gi, List.getElem?_drop]) (least_tells (l.drop k) lit cp)
  rw [Nat.zero_add, Nat.zero_add, List.length_take, Nat.min_eq_left hk] at h1
  rw [Nat.add_zero, List.length_drop, show k + (l.length - k) = l.length by omega] at h2
  rw [← sumT_app]
  exact least_le (h1.app h2)

end Go.Proofs.YtfanamibkgkaiaaDoor.VG
