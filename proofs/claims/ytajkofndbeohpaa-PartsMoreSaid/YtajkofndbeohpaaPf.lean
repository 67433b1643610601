/-
  Parts: rows cut, an own row's element set, widths (and what goes with it: parts Pa Pb Pc Pd Pe Pf).
-/
import Derived.Test.YtajkofndbeohpaaRe
import Derived.Test.YtajkofndbeohpaaBw
import Derived.Test.YtajkofndbeohpaaBl
import Derived.Test.YtajkofndbeohpaaSi

/-! ## Parts: rows cut, an own row's element set, widths. -/
namespace Go.Proofs.Ytajkofndbeohpaa.VG
open Go
set_option linter.unusedSimpArgs false
set_option linter.unusedVariables false

/-- A row that reads, with its room behind. -/
structure Rc (F : Nat → Prop) (w : World) (v : Value) (n : Nat) (xs : List Value) : Prop where
  rd : Rd F w v n xs
  cap : n ≤ slC v
  len : xs.length = n
theorem Rc.at {F : Nat → Prop} {w w' : World} {v : Value} {n : Nat} {xs : List Value} (h : Rc F w v n xs) (m : Mod none' w w') : Rc F w' v n xs := ⟨h.rd.at m, h.cap, h.len⟩
theorem Rc.sl {F : Nat → Prop} {w : World} {v : Value} {n : Nat} {xs : List Value} (h : Rc F w v n xs) : isS v ∧ slL v = n ∧ n ≤ slC v := ⟨h.rd.sl.1, h.rd.sl.2, h.cap⟩

theorem slB_some (a : Addr) (n cap : Nat) : slB (.slice (some a) n cap) = a := rfl
theorem Rc.cut {F : Nat → Prop} {w : World} {v : Value} {n : Nat} {xs : List Value} (h : Rc F w v n xs) (lo hi : Nat) (h1 : lo ≤ hi) (h2 : hi ≤ n) : Rc F w (slVal 1 v lo hi) (hi - lo) ((xs.take hi).drop lo) := by
  obtain ⟨cap, hv⟩ := h.rd.is
  have hcap := h.cap
  have hlen := h.len
  have hptr := h.rd.ptr
  have hcell := h.rd.cell
  clear h
  generalize slA v = oa at *
  subst hv
  replace hcap : n ≤ cap := hcap
  cases oa with
  | none =>
    have h0 : xs.length = 0 := by
      rcases Nat.eq_zero_or_pos xs.length with h | h
      · exact h
      · exact absurd (hptr h).1 (by simp)
    have e : slVal 1 (.slice none n cap) lo hi = .slice none (hi - lo) (cap - lo) := by by_cases hc : cap = lo <;> simp [slVal, slA, slC, hc]
    rw [e]
    obtain rfl : xs = [] := List.eq_nil_of_length_eq_zero h0
    refine ⟨⟨⟨_, rfl⟩, fun hp => by simp at hp, fun j u hj => by simp at hj⟩, by show hi - lo ≤ cap - lo; omega, by simp; omega⟩
  | some a =>
    have e : slVal 1 (.slice (some a) n cap) lo hi = .slice (some (if cap = lo then a else a.add lo)) (hi - lo) (cap - lo) := by simp only [slVal, slA, slC, Nat.mul_one, Option.map_some]; split <;> rfl
    rw [e]
    refine ⟨⟨⟨_, rfl⟩, fun hp => ⟨rfl, ?_⟩, fun j u hj => ?_⟩, by show hi - lo ≤ cap - lo; omega, by simp; omega⟩
    · simp only [List.length_drop, List.length_take] at hp
      obtain ⟨_, p2⟩ := hptr (by omega)
      rw [slB_some] at p2 ⊢
      split
      · exact p2
      · simpa [add_block] using p2
    · have hj' := (List.getElem?_eq_some_iff.1 hj).1
      simp only [List.length_drop, List.length_take] at hj'
      rw [List.getElem?_drop, List.getElem?_take_of_lt (by omega)] at hj
      have hc := hcell (lo + j) u hj
      rw [slB_some] at hc ⊢
      rw [if_neg (by omega), add_add]
      exact hc

theorem intsV_cut (l : List Int) (lo hi : Nat) : ((intsV l).take hi).drop lo = intsV ((l.take hi).drop lo) := by simp [intsV]
theorem Rc.cuti {F : Nat → Prop} {w : World} {v : Value} {l : List Int} (h : Rc F w v l.length (intsV l)) (lo hi : Nat) (h1 : lo ≤ hi) (h2 : hi ≤ l.length) : Rc F w (slVal 1 v lo hi) ((l.take hi).drop lo).length (intsV ((l.take hi).drop lo)) := by
  have := h.cut lo hi h1 h2
  rw [intsV_cut] at this
  have e : ((l.take hi).drop lo).length = hi - lo := by simp; omega
  rw [e]; exact this
theorem Rc.sl_ok {F : Nat → Prop} {w : World} {v : Value} {n : Nat} {xs : List Value} (h : Rc F w v n xs) (lo hi : Nat) : isS (slVal 1 v lo hi) ∧ slL (slVal 1 v lo hi) = hi - lo := ⟨trivial, rfl⟩

theorem Hp.rc {W w : World} {l : List It} (h : Hp W w l) (j : Nat) {e : TypeId} {n : Nat} {v : Value} {xs : List Value} (hj : l[j]? = some (.own e 1 v n xs)) : Rc (fun k => W.heap.size ≤ k) w v n xs := by
  refine ⟨h.rd j hj, ?_, ?_⟩
  · rcases (h.own j hj).2 with ⟨rfl, rfl⟩ | ⟨g, cap, cur, rfl, _, _, hn, _⟩
    · exact Nat.le_refl _
    · exact hn
  · have := (h.own j hj).1; omega

/-- An element of an own row of one-cell elements is set. -/
theorem set_h {P : Program} {Q : Exit → Env → World → Prop} {env : Env} {W w : World} {l : List It} {k : S} {a ex : E} {pr : List PrE} {e : TypeId} {v u : Value} {n i : Nat} {xs : List Value} (j : Nat) (h : Hp W w l) (hj : l[j]? = some (.own e 1 v n xs)) (hi : i < n)
    (ha : a.ev env w = .pointer (some ((slB v).add i))) (he : ex.ev env w = u) (h1 : one1 u = true)
    (hk : ∀ w', Hp W w' (l.set j (.own e 1 v n (xs.set i u))) → (pr = [] ∨ promsOk pr env w w') ∧ k.wp P Q env w') : (S.st 1 a ex pr k).wp P Q env w := by
  obtain ⟨F, ⟨hown, rfl⟩, hF, hup⟩ := h.upd j hj
  obtain ⟨hlen, hcase⟩ := hown
  rcases hcase with ⟨_, h0⟩ | ⟨g, cap, cur, rfl, hg0, hh, hn, hm, hs, ht⟩
  · omega
  have hB : slB (.slice (some ⟨g, 0, none⟩) n cap) = ⟨g, 0, none⟩ := rfl
  rw [hB, add_mk, Nat.zero_add] at ha
  refine st_r ha he hh (by omega) h1 ?_
  intro w' h2 hm' _
  obtain ⟨q1, q2⟩ := hk w' (hup _ w' (fun k => (Value.slice (some ⟨g, 0, none⟩) n cap).ownBlock = some k) (hm'.mono fun k _ hk => by subst hk; rfl) ⟨⟨by simp [hlen], .inr ⟨g, cap, _, rfl, hg0, h2, hn, hm, by simpa using hs, by rw [← ht, Array.toList_setIfInBounds, List.take_set]⟩⟩, rfl⟩ (fun k hk => .inl hk))
  refine ⟨?_, q2⟩
  rcases q1 with rfl | q1
  · trivial
  · exact q1

theorem Hp.blkNew {W w : World} {l : List It} (h : Hp W w l) (j : Nat) {b : Nat} {cs : Array Value} (hj : l[j]? = some (.blk b cs)) : W.heap.size ≤ b ∧ b < w.heap.size := by
  obtain ⟨F, ⟨⟨el, h1⟩, rfl⟩, h2, _⟩ := h.upd j hj
  exact ⟨h2 b rfl, heap_lt h1⟩
theorem Rc.mod {F S : Nat → Prop} {w w' : World} {v : Value} {n : Nat} {xs : List Value} (h : Rc F w v n xs) (m : Mod S w w') (hd : ∀ k, F k → ¬ S k) : Rc F w' v n xs := ⟨h.rd.mod m hd, h.cap, h.len⟩

/-- Widths. -/
def lowI (n : Nat) : Int := if 1 ≤ n ∧ n ≤ 31 then -((2 ^ (n - 1) : Nat) : Int) else 0
def highI (n : Nat) : Int := if 1 ≤ n ∧ n ≤ 31 then ((2 ^ (n - 1) : Nat) : Int) - 1 else 0
def fitB (x : Int) (n : Nat) : Bool := decide (1 ≤ n) && decide (n ≤ 31) && decide (lowI n ≤ x) && decide (x ≤ highI n)
def widF (x : Int) : Nat → Nat → Nat
  | 0, w => w
  | f + 1, w => if x ≠ 0 ∧ fitB x w = false then widF x f (w + 1) else w
def widX (w : Nat) (x : Int) : Nat := widF x (32 - w) w
def widL (l : List Int) : Nat := l.foldl widX 0
theorem widF_le (x : Int) : ∀ f w, widF x f w ≤ w + f ∧ w ≤ widF x f w
  | 0, w => by simp [widF]
  | f + 1, w => by
    have := widF_le x f (w + 1)
    simp only [widF]
    split <;> omega
theorem widX_le {w : Nat} (h : w ≤ 32) (x : Int) : widX w x ≤ 32 ∧ w ≤ widX w x := by
  have := widF_le x (32 - w) w
  unfold widX
  omega
theorem foldX_le : ∀ (l : List Int) (w : Nat), w ≤ 32 → l.foldl widX w ≤ 32 ∧ w ≤ l.foldl widX w
  | [], w, h => ⟨h, Nat.le_refl _⟩
  | x :: r, w, h => by
    have h1 := widX_le h x
    have h2 := foldX_le r (widX w x) h1.1
    simp only [List.foldl_cons]
    omega
theorem widL_le (l : List Int) : widL l ≤ 32 := (foldX_le l 0 (by omega)).1
theorem widL_snoc (l : List Int) (i : Nat) (h : i < l.length) : widL (l.take (i + 1)) = widX (widL (l.take i)) (gi l i) := by
  rw [gi_take_snoc l i h]; simp [widL]

theorem shl_i {x : Int} {y : Nat} (h : y ≤ 64) (h1 : -9223372036854775808 ≤ x * ((2 ^ y : Nat) : Int)) (h2 : x * ((2 ^ y : Nat) : Int) ≤ 9223372036854775807) : shl .i64 x y = x * ((2 ^ y : Nat) : Int) := by
  rw [shl_int _ _ _ (by simp only [IntKind.bits]; omega)]
  exact wI h1 h2

theorem shl_pm (m : Nat) (hm : m ≤ 30) : shl .i64 (-1) (m : Int) = -((2 ^ m : Nat) : Int) ∧ shl .i64 1 (m : Int) = ((2 ^ m : Nat) : Int) ∧ 2 ^ m ≤ 1073741824 ∧ 0 < 2 ^ m := by
  have h2 : 2 ^ m ≤ 2 ^ 30 := Nat.pow_le_pow_right (by omega) (by omega)
  have h3 := Nat.two_pow_pos m
  have a := @shl_i (-1) m (by omega)
  have b := @shl_i 1 m (by omega)
  generalize 2 ^ m = P at *
  refine ⟨?_, ?_, by omega, h3⟩
  · rw [a (by omega) (by omega)]; omega
  · rw [b (by omega) (by omega)]; omega

theorem low2_c {w : World} (n : Nat) (hn : n ≤ 32) : Calls Try.prog 80 [.int .i64 n].toArray w (Ret fun r w' => r = .int .i64 (lowI n) ∧ w' = w) := by
  refine F_sound c80 (by simp [fc80]) ?_
  simp [fc80, s80]
  unfold lowI
  by_cases h : 1 ≤ n ∧ n ≤ 31
  · refine ite_r (t := false) (by simp; omega) (fun h => by cases h) (fun _ => ?_)
    obtain ⟨m, rfl⟩ : ∃ m, n = m + 1 := ⟨n - 1, by omega⟩
    have hw : IntKind.i64.wrap (((m + 1 : Nat) : Int) - 1) = (m : Int) := by rw [show ((m + 1 : Nat) : Int) - 1 = m by omega]; exact wI (by omega) (by omega)
    have hw2 : IntKind.u64.wrap (m : Int) = m := wU (by omega) (by omega)
    obtain ⟨s1, s2, s3, s4⟩ := shl_pm m (by omega)
    simp [-Int.natCast_add, -Int.natCast_pow, hw, hw2, s1, h]
  · refine ite_r (t := true) (by simp; omega) (fun _ => ?_) (fun h => by cases h)
    simp [h]
theorem high2_c {w : World} (n : Nat) (hn : n ≤ 32) : Calls Try.prog 81 [.int .i64 n].toArray w (Ret fun r w' => r = .int .i64 (highI n) ∧ w' = w) := by
  refine F_sound c81 (by simp [fc81]) ?_
  simp [fc81, s81]
  unfold highI
  by_cases h : 1 ≤ n ∧ n ≤ 31
  · refine ite_r (t := false) (by simp; omega) (fun h => by cases h) (fun _ => ?_)
    obtain ⟨m, rfl⟩ : ∃ m, n = m + 1 := ⟨n - 1, by omega⟩
    have hw : IntKind.i64.wrap (((m + 1 : Nat) : Int) - 1) = (m : Int) := by rw [show ((m + 1 : Nat) : Int) - 1 = m by omega]; exact wI (by omega) (by omega)
    have hw2 : IntKind.u64.wrap (m : Int) = m := wU (by omega) (by omega)
    obtain ⟨s1, s2, s3, s4⟩ := shl_pm m (by omega)
    have hw3 : IntKind.i64.wrap (((2 ^ m : Nat) : Int) - 1) = ((2 ^ m : Nat) : Int) - 1 := by generalize 2 ^ m = P at *; exact wI (by omega) (by omega)
    simp [-Int.natCast_add, -Int.natCast_pow, hw, hw2, s2, hw3, h]
  · refine ite_r (t := true) (by simp; omega) (fun _ => ?_) (fun h => by cases h)
    simp [h]
theorem low_c' {w : World} (n : Nat) (hn : n ≤ 32) : Calls Try.prog 83 [.int .i64 n].toArray w (Ret fun r w' => r = .int .i64 (lowI n) ∧ w' = w) := by
  refine F_sound c83 (by simp [fc83]) ?_
  simp [fc83, s83]
  unfold lowI
  by_cases h : 1 ≤ n ∧ n ≤ 31
  · refine ite_r (t := false) (by simp; omega) (fun h => by cases h) (fun _ => ?_)
    obtain ⟨m, rfl⟩ : ∃ m, n = m + 1 := ⟨n - 1, by omega⟩
    have hw : IntKind.i64.wrap (((m + 1 : Nat) : Int) - 1) = (m : Int) := by rw [show ((m + 1 : Nat) : Int) - 1 = m by omega]; exact wI (by omega) (by omega)
    obtain ⟨s1, s2, s3, s4⟩ := shl_pm m (by omega)
    simp [-Int.natCast_add, -Int.natCast_pow, hw, s1, h]
  · refine ite_r (t := true) (by simp; omega) (fun _ => ?_) (fun h => by cases h)
    simp [h]
theorem high_c' {w : World} (n : Nat) (hn : n ≤ 32) : Calls Try.prog 84 [.int .i64 n].toArray w (Ret fun r w' => r = .int .i64 (highI n) ∧ w' = w) := by
  refine F_sound c84 (by simp [fc84]) ?_
  simp [fc84, s84]
  unfold highI
  by_cases h : 1 ≤ n ∧ n ≤ 31
  · refine ite_r (t := false) (by simp; omega) (fun h => by cases h) (fun _ => ?_)
    obtain ⟨m, rfl⟩ : ∃ m, n = m + 1 := ⟨n - 1, by omega⟩
    have hw : IntKind.i64.wrap (((m + 1 : Nat) : Int) - 1) = (m : Int) := by rw [show ((m + 1 : Nat) : Int) - 1 = m by omega]; exact wI (by omega) (by omega)
    obtain ⟨s1, s2, s3, s4⟩ := shl_pm m (by omega)
    have hw3 : IntKind.i64.wrap (((2 ^ m : Nat) : Int) - 1) = ((2 ^ m : Nat) : Int) - 1 := by generalize 2 ^ m = P at *; exact wI (by omega) (by omega)
    simp [-Int.natCast_add, -Int.natCast_pow, hw, s2, hw3, h]
  · refine ite_r (t := true) (by simp; omega) (fun _ => ?_) (fun h => by cases h)
    simp [h]

theorem fits2_c {w : World} (x : Int) (n : Nat) (hn : n ≤ 32) : Calls Try.prog 65 [.int .i64 x, .int .i64 n].toArray w (Ret fun r w' => r = .bool (fitB x n) ∧ w' = w) := by
  refine F_sound c65 (by simp [fc65]) ?_
  simp [fc65, s65]
  unfold fitB
  by_cases h : 1 ≤ n ∧ n ≤ 31
  · refine ifg_r (t := true) (by simp; omega) (fun _ => ?_) (fun h => (h rfl).elim)
    refine callp (low2_c n hn) (by simp) ?_
    simp [h]
    by_cases h1 : lowI n ≤ x
    · refine ifg_r (t := true) (by simp; omega) (fun _ => ?_) (fun h => (h rfl).elim)
      refine callp (high2_c n hn) (by simp) ?_
      simp [h, h1]
      omega
    · refine ifg_r (t := false) (by simp; omega) (fun h => by cases h) (fun _ => ?_)
      simp [h, h1]
  · refine ifg_r (t := false) (by simp; omega) (fun h => by cases h) (fun _ => ?_)
    simp
    refine ⟨fun _ _ => by omega, ?_⟩
    refine ifg_r (t := false) (by simp; omega) (fun h => by cases h) (fun _ => ?_)
    simp
    refine ⟨fun _ _ => by omega, ?_⟩
    have hf : (decide (1 ≤ n) && decide (n ≤ 31)) = false := by simp; omega
    simp [hf]
    intro _ _
    omega

theorem fits_c' {w : World} (x : Int) (n : Nat) (hn : n ≤ 32) : Calls Try.prog 71 [.int .i64 x, .int .i64 n].toArray w (Ret fun r w' => r = .bool (fitB x n) ∧ w' = w) := by
  refine F_sound c71 (by simp [fc71]) ?_
  simp [fc71, s71]
  unfold fitB
  by_cases h : 1 ≤ n ∧ n ≤ 31
  · refine ifg_r (t := true) (by simp; omega) (fun _ => ?_) (fun h => (h rfl).elim)
    refine callp (low_c' n hn) (by simp) ?_
    simp [h]
    by_cases h1 : lowI n ≤ x
    · refine ifg_r (t := true) (by simp; omega) (fun _ => ?_) (fun h => (h rfl).elim)
      refine callp (high_c' n hn) (by simp) ?_
      simp [h, h1]
      omega
    · refine ifg_r (t := false) (by simp; omega) (fun h => by cases h) (fun _ => ?_)
      simp [h, h1]
  · refine ifg_r (t := false) (by simp; omega) (fun h => by cases h) (fun _ => ?_)
    simp
    refine ⟨fun _ _ => by omega, ?_⟩
    refine ifg_r (t := false) (by simp; omega) (fun h => by cases h) (fun _ => ?_)
    simp
    refine ⟨fun _ _ => by omega, ?_⟩
    have hf : (decide (1 ≤ n) && decide (n ≤ 31)) = false := by simp; omega
    simp [hf]
    intro _ _
    omega

theorem widF_go {x : Int} {w : Nat} (hw : w < 32) (h : x ≠ 0 ∧ fitB x w = false) : widX w x = widX (w + 1) x := by
  unfold widX
  rw [show 32 - w = (32 - (w + 1)) + 1 by omega, widF, if_pos h]
theorem widF_stop {x : Int} {w : Nat} (hw : w ≤ 32) (h : ¬ (w < 32 ∧ x ≠ 0 ∧ fitB x w = false)) : widX w x = w := by
  unfold widX
  by_cases h32 : w = 32
  · subst h32; rfl
  · rw [show 32 - w = (32 - (w + 1)) + 1 by omega, widF, if_neg (fun hh => h ⟨by omega, hh⟩)]

set_option maxHeartbeats 1000000 in
theorem width2_c {G : Nat → Prop} {w : World} {v : Value} {l : List Int} (h : Rd G w v l.length (intsV l)) (hl : l.length ≤ 1000000) : Calls Try.prog 41 [v].toArray w (Ret fun r w' => r = .int .i64 (widL l) ∧ w' = w) := by
  refine F_sound c41 (by simp [fc41]) ?_
  obtain ⟨hS, hL⟩ := h.sl
  simp [fc41, s41]
  refine for_r l.length (fun i env' w' => env' 0 = v ∧ env' 3 = .int .i64 (widL (l.take i)) ∧ env' 4 = .int .i64 i ∧ w' = w) ?_ ?_ ?_
  · simp [widL]
  · rintro i env w' hi ⟨e0, e3, e4, rfl⟩
    simp [e0, e4, hS, hL]
    refine ite_r (t := true) (by simp; omega) (fun _ => ?_) (fun h => by cases h)
    simp [wp_blk]
    have hg := h.gi i hi
    have hp := h.some (by omega)
    have hle := widL_le (l.take i)
    rw [widL_snoc l i hi]
    generalize widL (l.take i) = W0 at *
    refine loop_w (fun m env' w'' => ∃ k : Nat, k ≤ 32 ∧ 32 - k ≤ m ∧ widX k (gi l i) = widX W0 (gi l i) ∧ env' 0 = v ∧ env' 3 = .int .i64 k ∧ env' 4 = .int .i64 i ∧ w'' = w') 32
      (fun env' w'' => env' 0 = v ∧ env' 3 = .int .i64 (widX W0 (gi l i)) ∧ env' 4 = .int .i64 i ∧ w'' = w') ?_ ?_ ?_
    · exact ⟨W0, by omega, by omega, rfl, by simp [e0], by simp [e3], by simp [e4], rfl⟩
    · rintro m env2 w2 ⟨k, hk, hm, hW, f0, f3, f4, rfl⟩
      simp [f0, f3, f4, hS, hL, hi, hg, hp]
      by_cases hc : (k : Int) < 32
      · by_cases hx : gi l i = 0
        · simp [hc, hx]
          refine ifg_r (t := false) (by simp) (fun h => by cases h) (fun _ => ?_)
          simp
          refine ite_r (t := false) (by simp) (fun h => by cases h) (fun _ => ?_)
          simp [f0, f3, f4]
          rw [hx] at hW
          rw [← hW, widF_stop hk (by simp)]
        · simp [hc, hx]
          refine ifg_r (t := true) (by simp [hx]) (fun _ => ?_) (fun h => (h rfl).elim)
          refine callp (fits2_c (gi l i) k hk) (by simp [f3]) ?_
          cases hf : fitB (gi l i) k
          · simp [hx]
            refine ite_r (t := true) (by simp [hx]) (fun _ => ?_) (fun h => by cases h)
            simp [wp_blk]
            simp [f3]
            have hw1 : IntKind.i64.wrap ((k : Int) + 1) = ((k + 1 : Nat) : Int) := by rw [wI (by omega) (by omega)]; omega
            simp [-Int.natCast_add, hw1, f0, f4]
            exact ⟨32 - (k + 1), by omega, k + 1, by omega, by omega, by rw [← widF_go (by omega) ⟨hx, hf⟩]; exact hW, rfl⟩
          · simp [hx]
            refine ite_r (t := false) (by simp) (fun h => by cases h) (fun _ => ?_)
            simp [f0, f3, f4]
            rw [← hW, widF_stop hk (by rw [hf]; simp)]
      · simp [hc]
        refine ifg_r (t := false) (by simp) (fun h => by cases h) (fun _ => ?_)
        simp
        refine ite_r (t := false) (by simp) (fun h => by cases h) (fun _ => ?_)
        simp [f0, f3, f4]
        rw [← hW, widF_stop hk (by omega)]
    · rintro env2 w2 ⟨f0, f3, f4, rfl⟩
      simp [f0, f3, f4]
      exact wI (by omega) (by omega)
  · rintro env w' ⟨e0, e3, e4, rfl⟩
    simp [e0, e4, hS, hL]
    refine ite_r (t := false) (by simp) (fun h => by cases h) (fun _ => ?_)
    simp [e3]

set_option maxHeartbeats 1000000 in
theorem width_c' {G : Nat → Prop} {w : World} {v : Value} {l : List Int} (h : Rd G w v l.length (intsV l)) (hl : l.length ≤ 1000000) : Calls Try.prog 49 [v].toArray w (Ret fun r w' => r = .int .i64 (widL l) ∧ w' = w) := by
  refine F_sound c49 (by simp [fc49]) ?_
  obtain ⟨hS, hL⟩ := h.sl
  simp [fc49, s49, hS, hL]
  refine for_r l.length (fun i env' w' => env' 6 = v ∧ env' 7 = .int .i64 l.length ∧ env' 3 = .int .i64 (widL (l.take i)) ∧ env' 8 = .int .i64 i ∧ w' = w) ?_ ?_ ?_
  · simp [widL, hL]
  · rintro i env w' hi ⟨e6, e7, e3, e8, rfl⟩
    simp [e7, e8]
    refine ite_r (t := true) (by simp; omega) (fun _ => ?_) (fun h => by cases h)
    simp [wp_blk]
    have hg := h.gi i hi
    have hp := h.some (by omega)
    have hle := widL_le (l.take i)
    rw [widL_snoc l i hi]
    generalize widL (l.take i) = W0 at *
    simp [e6, e8, hS, hL, hi, hg, hp]
    generalize gi l i = x at *
    refine loop_w (fun m env' w'' => ∃ k : Nat, k ≤ 32 ∧ 32 - k ≤ m ∧ widX k x = widX W0 x ∧ env' 6 = v ∧ env' 7 = .int .i64 l.length ∧ env' 3 = .int .i64 k ∧ env' 5 = .int .i64 x ∧ env' 8 = .int .i64 i ∧ w'' = w') 32
      (fun env' w'' => env' 6 = v ∧ env' 7 = .int .i64 l.length ∧ env' 3 = .int .i64 (widX W0 x) ∧ env' 8 = .int .i64 i ∧ w'' = w') ?_ ?_ ?_
    · exact ⟨W0, by omega, by omega, rfl, by simp [e6], by simp [e7], by simp [e3], by simp, by simp [e8], rfl⟩
    · rintro m env2 w2 ⟨k, hk, hm, hW, f6, f7, f3, f5, f8, rfl⟩
      simp [f3, f5]
      by_cases hx : x = 0
      · simp [hx]
        refine ifg_r (t := false) (by simp) (fun h => by cases h) (fun _ => ?_)
        simp
        refine ite_r (t := false) (by simp) (fun h => by cases h) (fun _ => ?_)
        simp [f3, f6, f7, f8]
        subst hx
        rw [← hW, widF_stop hk (by simp)]
      by_cases hc : (k : Int) < 32
      · simp [hc, hx]
        refine ifg_r (t := true) (by simp [hx]) (fun _ => ?_) (fun h => (h rfl).elim)
        refine callp (fits_c' x k hk) (by simp [f3, f5]) ?_
        cases hf : fitB x k
        · simp [hx]
          refine ite_r (t := true) (by simp [hx]) (fun _ => ?_) (fun h => by cases h)
          simp [wp_blk]
          simp [f3]
          have hw1 : IntKind.i64.wrap ((k : Int) + 1) = ((k + 1 : Nat) : Int) := by rw [wI (by omega) (by omega)]; omega
          simp [-Int.natCast_add, hw1, f5, f6, f7, f8]
          exact ⟨32 - (k + 1), by omega, k + 1, by omega, by omega, by rw [← widF_go (by omega) ⟨hx, hf⟩]; exact hW, rfl⟩
        · simp [hx]
          refine ite_r (t := false) (by simp) (fun h => by cases h) (fun _ => ?_)
          simp [f3, f6, f7, f8]
          rw [← hW, widF_stop hk (by rw [hf]; simp)]
      · simp [hc, hx]
        refine ifg_r (t := false) (by simp) (fun h => by cases h) (fun _ => ?_)
        simp
        refine ite_r (t := false) (by simp) (fun h => by cases h) (fun _ => ?_)
        simp [f3, f6, f7, f8]
        rw [← hW, widF_stop hk (by omega)]
    · rintro env2 w2 ⟨f6, f7, f3, f8, rfl⟩
      simp [f3, f6, f7, f8]
      exact wI (by omega) (by omega)
  · rintro env w' ⟨e6, e7, e3, e8, rfl⟩
    simp [e7, e8]
    refine ite_r (t := false) (by simp) (fun h => by cases h) (fun _ => ?_)
    simp [e3]

end Go.Proofs.Ytajkofndbeohpaa.VG

/-! ## Parts: rows, sizes, plans. -/
namespace Go.Proofs.Ytajkofndbeohpaa.VG
open Go
set_option linter.unusedSimpArgs false
set_option linter.unusedVariables false

def rowB (n wm : Int) : Bool := decide (1 ≤ n) && decide (n ≤ 4096) && decide (0 ≤ wm) && decide (wm ≤ n)
theorem rowB_iff {n wm : Int} : rowB n wm = true ↔ (1 ≤ n ∧ n ≤ 4096) ∧ 0 ≤ wm ∧ wm ≤ n := by simp [rowB, and_assoc]
def pw (o : Int) : Int := ((2 ^ o.toNat : Nat) : Int)
def szB (o n wm : Int) : Bool := rowB n wm && decide (0 ≤ o) && decide (o ≤ 8) && decide (n % pw o = 0) && decide (wm ≤ n / pw o)
def szS (o n wm : Int) : List Int := if szB o n wm = true then (n / pw o - wm) :: List.replicate (2 ^ o.toNat - 1) (n / pw o) else []
theorem szB_iff {o n wm : Int} : szB o n wm = true ↔ rowB n wm = true ∧ (0 ≤ o ∧ o ≤ 8) ∧ n % pw o = 0 ∧ wm ≤ n / pw o := by simp [szB, and_assoc]
theorem pw_bd {o : Int} (h : o ≤ 8) : 2 ^ o.toNat ≤ 256 ∧ 0 < 2 ^ o.toNat := by
  have : 2 ^ o.toNat ≤ 2 ^ 8 := Nat.pow_le_pow_right (by omega) (by omega)
  exact ⟨by omega, Nat.two_pow_pos _⟩
theorem szS_len (o n wm : Int) : (szS o n wm).length = if szB o n wm = true then 2 ^ o.toNat else 0 := by
  have := Nat.two_pow_pos o.toNat
  unfold szS
  split
  · simp; omega
  · rfl
theorem szS_le (o n wm : Int) : (szS o n wm).length ≤ 256 := by
  rw [szS_len]
  split
  · rename_i h
    exact (pw_bd (szB_iff.1 h).2.1.2).1
  · omega
theorem szS_nil {o n wm : Int} : szS o n wm = [] ↔ szB o n wm = false := by
  unfold szS
  split
  · rename_i h; simp [h]
  · rename_i h; simpa using h

theorem prow_c {w : World} (n wm : Int) : Calls Try.prog 42 [.int .i64 n, .int .i64 wm].toArray w (Ret fun r w' => r = .bool (rowB n wm) ∧ w' = w) := by
  refine F_sound c42 (by simp [fc42]) ?_
  simp [fc42, s42, rowB]
theorem prow2_c {w : World} (n wm : Int) : Calls Try.prog 43 [.int .i64 n, .int .i64 wm].toArray w (Ret fun r w' => r = .bool (rowB n wm) ∧ w' = w) := by
  refine F_sound c43 (by simp [fc43]) ?_
  simp [fc43, s43, rowB]

/-- A row of one's own, made by a call. -/
def RowOwn (w w' : World) (r : Value) (s : List Int) : Prop := Hp w w' [.own 3 1 r s.length (intsV s)]

theorem cut_iff (n P : Int) : n / P * P = n ↔ n % P = 0 := by
  have := Int.mul_ediv_add_emod n P
  rw [Int.mul_comm]
  generalize P * (n / P) = t at *
  omega
theorem div_bd {n P : Int} (h : 0 ≤ n) (hP : 1 ≤ P) : 0 ≤ n / P ∧ n / P ≤ n := ⟨Int.ediv_nonneg h (by omega), Int.ediv_le_self _ h⟩

set_option maxHeartbeats 1000000 in
theorem sizes_c {w : World} (o n wm : Int) : Calls Try.prog 15 [.int .i64 o, .int .i64 n, .int .i64 wm].toArray w (Ret fun r w' => RowOwn w w' r (szS o n wm)) := by
  refine F_sound c15 (by simp [fc15]) ?_
  simp [fc15, s15]
  refine callp (prow_c n wm) (by simp) ?_
  have hbad : szB o n wm = false → RowOwn w w (.slice none 0 0) (szS o n wm) := fun h => by rw [szS_nil.2 h]; exact (Hp.nil w).nilS
  have hno : szB o n wm = true → rowB n wm = true ∧ (0 ≤ o ∧ o ≤ 8) ∧ n % pw o = 0 ∧ wm ≤ n / pw o := szB_iff.1
  have hB : ∀ b : Bool, b = true ∨ b = false := fun b => by cases b <;> simp
  by_cases h1 : rowB n wm = true ∧ 0 ≤ o ∧ o ≤ 8
  rotate_left
  · simp
    refine ite_r (t := true) (by simp; rcases hB (rowB n wm) with h | h <;> simp [h] at h1 ⊢; omega) (fun _ => ?_) (fun h => by cases h)
    simp
    refine hbad ?_
    rcases hB (szB o n wm) with h | h
    · obtain ⟨a, b, _⟩ := hno h; exact absurd ⟨a, b⟩ h1
    · exact h
  obtain ⟨hr, ho0, ho8⟩ := h1
  have hr' := rowB_iff.1 hr
  simp
  refine ite_r (t := false) (by simp [hr]; omega) (fun h => by cases h) (fun _ => ?_)
  obtain ⟨O, rfl⟩ : ∃ O : Nat, o = O := ⟨o.toNat, by omega⟩
  have hpw := pw_bd ho8
  obtain ⟨_, s2, _, _⟩ := shl_pm O (by omega)
  have hsh : shr .i64 n (O : Int) = n / pw O := shr_int _ _ _ (by simp only [IntKind.bits]; omega)
  have hshl := shl_int .i64 (n / pw O) O (by simp only [IntKind.bits]; omega)
  have hszl : szB (O : Int) n wm = true → szS (O : Int) n wm = (n / pw O - wm) :: List.replicate (2 ^ O - 1) (n / pw O) := fun h => by rw [szS, if_pos h]; rfl
  have hszi : szB (O : Int) n wm = true ↔ n % pw O = 0 ∧ wm ≤ n / pw O := by rw [szB_iff]; exact ⟨fun h => h.2.2, fun h => ⟨hr, ⟨ho0, ho8⟩, h⟩⟩
  have hP : pw (O : Int) = ((2 ^ O : Nat) : Int) := rfl
  rw [Int.toNat_natCast] at hpw
  rw [← hP] at hshl s2
  have hci := cut_iff n (pw O)
  have hdb := div_bd (n := n) (P := pw O) (by omega) (by omega)
  have hmul : n / pw O * pw O ≤ n ∧ 0 ≤ n / pw O * pw O := by
    have h1 := Int.mul_ediv_add_emod n (pw O)
    have h2 := Int.emod_nonneg n (show pw (O : Int) ≠ 0 by omega)
    have h3 := Int.mul_nonneg hdb.1 (show 0 ≤ pw (O : Int) by omega)
    rw [Int.mul_comm] at h1
    omega
  have hw1 := @wI (n / pw O * pw O) (by omega) (by omega)
  rw [hw1] at hshl
  generalize 2 ^ O = P at *
  generalize pw (O : Int) = Pi at *
  subst hP
  generalize hq : n / (P : Int) = q at *
  simp [hsh, hshl]
  by_cases h2 : szB (O : Int) n wm = true
  rotate_left
  · have h2' := h2
    rw [hszi] at h2'
    refine ite_r (t := true) (by simp [hci]; omega) (fun _ => ?_) (fun h => by cases h)
    simp
    exact hbad (by simpa using h2)
  obtain ⟨h3, h4⟩ := hszi.1 h2
  refine ite_r (t := false) (by simp [hci, h3]; omega) (fun h => by cases h) (fun _ => ?_)
  have hw2 : IntKind.i64.wrap (q - wm) = q - wm := wI (by omega) (by omega)
  simp [hw2]
  refine bs_h slTI [.int .i64 (q - wm)] (Hp.nil w) rfl (by decide) (by simp [hw2]) (by simp [Value.cells]) ?_
  intro v1 w1 H M1
  refine ⟨.inl rfl, ?_⟩
  simp
  refine for_r (P - 1) (fun i env' w' => env' 0 = .int .i64 O ∧ env' 7 = .int .i64 q ∧ Hp w w' [.own 3 1 (env' 8) (i + 1) (intsV ((q - wm) :: List.replicate i q))]) ?_ ?_ ?_
  · simp
    simpa [intsV, Value.cells] using H
  · rintro i env w' hi ⟨e0, e7, H⟩
    obtain ⟨hS, hL⟩ := (H.rd 0 rfl).sl
    simp [e0, hS, hL, s2]
    refine ite_r (t := true) (by simp; omega) (fun _ => ?_) (fun h => by cases h)
    simp [wp_blk]
    refine app1_h slTI 0 H rfl (u := .int .i64 q) (by simp) (by omega) (by unfold maxLen; omega) (by simp [e7]) (by simp) (by simp) (by simp) ?_
    intro vb v' w2 w3 H
    refine ⟨.inl rfl, ?_⟩
    simp [e0, e7]
    rw [intsV_snoc] at H
    have e : (q - wm) :: List.replicate i q ++ [q] = (q - wm) :: List.replicate (i + 1) q := by rw [List.replicate_succ']; rfl
    rw [e] at H
    exact H
  · rintro env w' ⟨e0, e7, H⟩
    obtain ⟨hS, hL⟩ := (H.rd 0 rfl).sl
    simp [e0, hS, hL, s2]
    refine ite_r (t := false) (by simp; omega) (fun h => by cases h) (fun _ => ?_)
    simp
    unfold RowOwn
    rw [hszl h2]
    simpa using H

set_option maxHeartbeats 1000000 in
theorem sizes2_c {w : World} (o n wm : Int) : Calls Try.prog 16 [.int .i64 o, .int .i64 n, .int .i64 wm].toArray w (Ret fun r w' => RowOwn w w' r (szS o n wm)) := by
  refine F_sound c16 (by simp [fc16]) ?_
  simp [fc16, s16]
  refine callp (prow2_c n wm) (by simp) ?_
  have hbad : szB o n wm = false → RowOwn w w (.slice none 0 0) (szS o n wm) := fun h => by rw [szS_nil.2 h]; exact (Hp.nil w).nilS
  have hno : szB o n wm = true → rowB n wm = true ∧ (0 ≤ o ∧ o ≤ 8) ∧ n % pw o = 0 ∧ wm ≤ n / pw o := szB_iff.1
  have hB : ∀ b : Bool, b = true ∨ b = false := fun b => by cases b <;> simp
  by_cases h1 : rowB n wm = true ∧ 0 ≤ o ∧ o ≤ 8
  rotate_left
  · have h1' : (rowB n wm = false ∨ o < 0) ∨ 8 < o := by
      rcases hB (rowB n wm) with h | h
      · simp [h] at h1 ⊢; omega
      · simp [h]
    have hc : ∀ {Q : Prop}, rowB n wm = true → 0 ≤ o → o ≤ 8 → Q := fun a b c => absurd ⟨a, b, c⟩ h1
    simp
    refine ⟨fun a b c => hc a b c, fun a b c => hc a b c, fun a b c _ => hc a b c, ?_⟩
    refine ite_r (t := true) (by rcases h1' with (h | h) | h <;> simp [h]) (fun _ => ?_) (fun h => by cases h)
    simp
    refine hbad ?_
    rcases hB (szB o n wm) with h | h
    · obtain ⟨a, b, _⟩ := hno h; exact absurd ⟨a, b⟩ h1
    · exact h
  obtain ⟨hr, ho0, ho8⟩ := h1
  have hr' := rowB_iff.1 hr
  obtain ⟨O, rfl⟩ : ∃ O : Nat, o = O := ⟨o.toNat, by omega⟩
  have hpw := pw_bd ho8
  obtain ⟨_, s2, _, _⟩ := shl_pm O (by omega)
  have hsh : shr .i64 n (O : Int) = n / pw O := shr_int _ _ _ (by simp only [IntKind.bits]; omega)
  have hszl : szB (O : Int) n wm = true → szS (O : Int) n wm = (n / pw O - wm) :: List.replicate (2 ^ O - 1) (n / pw O) := fun h => by rw [szS, if_pos h]; rfl
  have hszi : szB (O : Int) n wm = true ↔ n % pw O = 0 ∧ wm ≤ n / pw O := by rw [szB_iff]; exact ⟨fun h => h.2.2, fun h => ⟨hr, ⟨ho0, ho8⟩, h⟩⟩
  have hP : pw (O : Int) = ((2 ^ O : Nat) : Int) := rfl
  rw [Int.toNat_natCast] at hpw
  rw [← hP] at s2
  have hdb := div_bd (n := n) (P := pw O) (by omega) (by omega)
  have htm : n.tmod (pw (O : Int)) = n % pw O := Int.tmod_eq_emod_of_nonneg (by omega)
  have hwO : IntKind.u64.wrap (O : Int) = O := wU (by omega) (by omega)
  generalize 2 ^ O = P at *
  generalize pw (O : Int) = Pi at *
  subst hP
  generalize hq : n / (P : Int) = q at *
  have hr1 : rowB n wm = true := hr
  simp [hsh, hwO, s2, htm, hr1]
  refine ⟨fun _ => by omega, ?_⟩
  by_cases h2 : szB (O : Int) n wm = true
  rotate_left
  · have h2' := h2
    rw [hszi] at h2'
    refine ite_r (t := true) (by simp; omega) (fun _ => ?_) (fun h => by cases h)
    simp
    exact hbad (by simpa using h2)
  obtain ⟨h3, h4⟩ := hszi.1 h2
  refine ite_r (t := false) (by simp [h3]; omega) (fun h => by cases h) (fun _ => ?_)
  simp
  refine for_r P (fun i env' w' => env' 0 = .int .i64 O ∧ env' 1 = .int .i64 n ∧ env' 2 = .int .i64 wm ∧ env' 8 = .int .i64 i ∧ Hp w w' [.own 3 1 (env' 7) i (intsV (List.replicate i q))]) ?_ ?_ ?_
  · simp
    exact (Hp.nil w).nilS
  · rintro i env w' hi ⟨e0, e1, e2, e8, H⟩
    simp [e0, e8, hwO, s2]
    refine ite_r (t := true) (by simp; omega) (fun _ => ?_) (fun h => by cases h)
    simp [wp_blk, e0, e1, hwO, hsh]
    refine app1_h slTI 0 H rfl (u := .int .i64 q) (by simp) (by omega) (by unfold maxLen; omega) (by simp [e0, e1, hwO, hsh]) (by simp) (by simp) (by simp) ?_
    intro vb v' w2 w3 H
    refine ⟨.inl rfl, ?_⟩
    have hw1 : IntKind.i64.wrap ((i : Int) + 1) = ((i + 1 : Nat) : Int) := by rw [wI (by omega) (by omega)]; omega
    simp [-Int.natCast_add, hw1, e0, e1, e2, e8]
    rw [intsV_snoc, ← List.replicate_succ'] at H
    exact ⟨by omega, H⟩
  · rintro env w' ⟨e0, e1, e2, e8, H⟩
    simp [e0, e8, hwO, s2]
    refine ite_r (t := false) (by simp) (fun h => by cases h) (fun _ => ?_)
    have hrd := H.rd 0 rfl
    obtain ⟨hS, hL⟩ := hrd.sl
    have hg := hrd.gi 0 (by simp; omega)
    have hp := hrd.some (by simp; omega)
    have hg0 : gi (List.replicate P q) 0 = q := by rw [gi_get _ _ (by simp; omega)]; simp
    rw [hg0, add_zero] at hg
    have hw2 : IntKind.i64.wrap (q - wm) = q - wm := wI (by omega) (by omega)
    simp [hS, hL, hp, hg, e2, hw2, hpw.2]
    refine set_h 0 H rfl (i := 0) (u := .int .i64 (q - wm)) (by omega) (by simp [hS, hL, hp, add_zero]) (by simp [e2, hw2]) (by simp) ?_
    intro w2 H
    refine ⟨.inl rfl, ?_⟩
    simp
    unfold RowOwn
    rw [hszl h2]
    have e : (List.replicate P q).set 0 (q - wm) = (q - wm) :: List.replicate (P - 1) q := by
      obtain ⟨R, rfl⟩ : ∃ R, P = R + 1 := ⟨P - 1, by omega⟩
      rw [List.replicate_succ]; simp
    have e2 : (intsV (List.replicate P q)).set 0 (.int .i64 (q - wm)) = intsV ((q - wm) :: List.replicate (P - 1) q) := by rw [← e]; simp [intsV, List.map_set]
    rw [e2] at H
    have e3 : ((q - wm) :: List.replicate (P - 1) q).length = P := by simp; omega
    rw [e3]
    exact H

end Go.Proofs.Ytajkofndbeohpaa.VG

/-! ## Parts: may a plan be; costs of one part. -/
namespace Go.Proofs.Ytajkofndbeohpaa.VG
open Go
set_option linter.unusedSimpArgs false
set_option linter.unusedVariables false

def okK (k : Int) : Bool := paramB k || decide (k = 31)
def mayB (o : Int) (ks : List Int) (n wm : Int) : Bool := szB o n wm && decide (ks.length = (szS o n wm).length) && ks.all okK
def rightB (n wm : Int) (l : List Int) : Bool := rowB n wm && decide ((l.length : Int) = n - wm) && allW l
theorem all_take {f : Int → Bool} {l : List Int} {i : Nat} (h : (l.take i).all f = true) (hi : i < l.length) : (l.take (i + 1)).all f = f (gi l i) := by
  rw [gi_take_snoc l i hi, List.all_append, h]; simp
theorem all_not {f : Int → Bool} {l : List Int} {i : Nat} (hi : i < l.length) (h : f (gi l i) = false) : l.all f = false := by
  rw [List.all_eq_false]
  exact ⟨_, gi_mem l i hi, by simp [h]⟩

/-- A plan, as it is handed on. -/
def planV (o : Int) (kv : Value) : Value := .agg #[.int .i64 o, kv]

set_option maxHeartbeats 1000000 in
theorem may_c {G : Nat → Prop} {w : World} {kv : Value} {ks : List Int} (o n wm : Int) (h : Rd G w kv ks.length (intsV ks)) (hl : ks.length ≤ 1000000) : Calls Try.prog 17 [planV o kv, .int .i64 n, .int .i64 wm].toArray w (Ret fun r w' => r = .bool (mayB o ks n wm) ∧ Mod none' w w') := by
  refine F_sound c17 (by simp [fc17]) ?_
  obtain ⟨hS, hL⟩ := h.sl
  have h1c : kv.cells = #[kv] := by obtain ⟨cap, hv⟩ := h.is; rw [hv]; rfl
  simp [fc17, s17]
  refine box_h (planV o kv) (Hp.nil w) (by simp) ?_
  intro b w1 H M1
  refine ⟨.inl rfl, ?_⟩
  have hb0 := H.blk 0 rfl 0
  have hb1 := H.blk 0 rfl 1
  simp [planV, Value.cells, h1c] at hb0 hb1
  simp [hb0]
  refine call_h (sizes_c o n wm) (by simp) ?_
  intro sv w2 H2
  have hb1 := (H.join H2).blk 0 rfl 1
  simp [planV, Value.cells, h1c] at hb1
  replace H := H.join H2
  obtain ⟨sS, sL⟩ := (H.rd 1 rfl).sl
  simp [sS, sL, hb1, hS, hL]
  have hle := szS_le o n wm
  have hnil := @szS_nil o n wm
  have hlz : (szS o n wm).length = 0 ↔ szB o n wm = false := by rw [← hnil]; exact List.length_eq_zero_iff
  unfold mayB
  generalize szS o n wm = s at *
  by_cases hbad : s.length = 0 ∨ ¬ ks.length = s.length
  · refine ite_r (t := true) (by simp; rw [← List.length_eq_zero_iff]; omega) (fun _ => ?_) (fun h => by cases h)
    simp
    refine ⟨?_, H.mod⟩
    rcases hbad with h | h
    · simp [hlz.1 h]
    · simp [h]
  have hB : szB o n wm = true := by
    rcases Bool.eq_false_or_eq_true (szB o n wm) with h | h
    · exact h
    · exact absurd (hlz.2 h) (by omega)
  refine ite_r (t := false) (by simp; rw [← List.length_eq_zero_iff]; omega) (fun h => by cases h) (fun _ => ?_)
  simp [hb1, hS, hL, hB, show ks.length = s.length by omega]
  have h2 := h.at H.mod
  refine for_r ks.length (fun i env' w' => env' 27 = kv ∧ env' 28 = .int .i64 ks.length ∧ env' 29 = .int .i64 i ∧ (ks.take i).all okK = true ∧ w' = w2) ?_ ?_ ?_
  · simp [hb1, hS, hL]
    omega
  · rintro i env w' hi ⟨e27, e28, e29, hall, rfl⟩
    simp [e28, e29]
    refine ite_r (t := true) (by simp; omega) (fun _ => ?_) (fun h => by cases h)
    simp [wp_blk]
    have hg := h2.gi i hi
    have hp := h2.some (by omega)
    simp [e27, e29, hS, hL, hi, hg, hp]
    have hat := all_take hall hi
    have hno := @all_not okK ks i hi
    have hok : okK (gi ks i) = !((decide (gi ks i < 0) || decide (25 < gi ks i)) && decide (gi ks i ≠ 31)) := by
      rw [Bool.eq_iff_iff]; simp [okK, paramB]
    generalize gi ks i = x at *
    by_cases hx : (x < 0 ∨ 25 < x) ∧ x ≠ 31
    · refine ite_r (t := true) (by simp; omega) (fun _ => ?_) (fun h => by cases h)
      simp
      refine ⟨?_, H.mod⟩
      have := hno (by rw [hok]; simp; omega)
      simpa using this
    · refine ite_r (t := false) (by simp; omega) (fun h => by cases h) (fun _ => ?_)
      have hw1 : IntKind.i64.wrap ((i : Int) + 1) = ((i + 1 : Nat) : Int) := by rw [wI (by omega) (by omega)]; omega
      simp [-Int.natCast_add, hw1, e27, e28, e29]
      rw [← List.all_eq_true, hat, hok]
      simp
      omega
  · rintro env w' ⟨e27, e28, e29, hall, rfl⟩
    simp [e28, e29]
    refine ite_r (t := false) (by simp) (fun h => by cases h) (fun _ => ?_)
    simp
    rw [List.take_length] at hall
    refine ⟨?_, H.mod⟩
    simpa using hall

set_option maxHeartbeats 1000000 in
theorem may2_c {G : Nat → Prop} {w : World} {kv : Value} {ks : List Int} (o n wm : Int) (h : Rd G w kv ks.length (intsV ks)) (hl : ks.length ≤ 1000000) : Calls Try.prog 18 [planV o kv, .int .i64 n, .int .i64 wm].toArray w (Ret fun r w' => r = .bool (mayB o ks n wm) ∧ Mod none' w w') := by
  refine F_sound c18 (by simp [fc18]) ?_
  obtain ⟨hS, hL⟩ := h.sl
  have h1c : kv.cells = #[kv] := by obtain ⟨cap, hv⟩ := h.is; rw [hv]; rfl
  simp [fc18, s18]
  refine box_h (planV o kv) (Hp.nil w) (by simp) ?_
  intro b w1 H M1
  refine ⟨.inl rfl, ?_⟩
  have hb0 := H.blk 0 rfl 0
  simp [planV, Value.cells, h1c] at hb0
  simp [hb0]
  refine call_h (sizes2_c o n wm) (by simp) ?_
  intro sv w2 H2
  have hb1 := (H.join H2).blk 0 rfl 1
  simp [planV, Value.cells, h1c] at hb1
  replace H := H.join H2
  obtain ⟨sS, sL⟩ := (H.rd 1 rfl).sl
  simp [sS, sL, hb1, hS, hL]
  have hle := szS_le o n wm
  have hnil := @szS_nil o n wm
  have hlz : (szS o n wm).length = 0 ↔ szB o n wm = false := by rw [← hnil]; exact List.length_eq_zero_iff
  unfold mayB
  generalize szS o n wm = s at *
  by_cases hbad : s.length = 0 ∨ ¬ ks.length = s.length
  · refine ite_r (t := true) (by simp; rw [← List.length_eq_zero_iff]; omega) (fun _ => ?_) (fun h => by cases h)
    simp
    refine ⟨?_, H.mod⟩
    rcases hbad with h | h
    · simp [hlz.1 h]
    · simp [h]
  have hB : szB o n wm = true := by
    rcases Bool.eq_false_or_eq_true (szB o n wm) with h | h
    · exact h
    · exact absurd (hlz.2 h) (by omega)
  refine ite_r (t := false) (by simp; rw [← List.length_eq_zero_iff]; omega) (fun h => by cases h) (fun _ => ?_)
  simp [hB, show ks.length = s.length by omega]
  have h2 := h.at H.mod
  refine for_r ks.length (fun i env' w' => env' 3 = .pointer (some ⟨b, 0, none⟩) ∧ env' 8 = .int .i64 i ∧ (ks.take i).all okK = true ∧ w' = w2) ?_ ?_ ?_
  · simp
  · rintro i env w' hi ⟨e3, e8, hall, rfl⟩
    simp [e3, e8, hb1, hS, hL]
    refine ite_r (t := true) (by simp; omega) (fun _ => ?_) (fun h => by cases h)
    simp [wp_blk]
    have hg := h2.gi i hi
    have hp := h2.some (by omega)
    simp [e3, e8, hb1, hS, hL, hi, hg, hp]
    have hat := all_take hall hi
    have hno := @all_not okK ks i hi
    generalize gi ks i = x at *
    refine callp (rparam2_c x) (by simp) ?_
    have hw1 : IntKind.i64.wrap ((i : Int) + 1) = ((i + 1 : Nat) : Int) := by rw [wI (by omega) (by omega)]; omega
    by_cases hp1 : paramB x = true
    · simp [hp1]
      refine ite_r (t := false) (by simp [hp1]) (fun h => by cases h) (fun _ => ?_)
      simp [-Int.natCast_add, hw1, e3, e8]
      rw [← List.all_eq_true, hat]
      simp [okK, hp1]
    · simp [hp1, e3, e8, hb1, hS, hL, hi, hg, hp]
      by_cases hx : x = 31
      · refine ite_r (t := false) (by simp [hx]) (fun h => by cases h) (fun _ => ?_)
        simp [-Int.natCast_add, hw1, e3, e8]
        rw [← List.all_eq_true, hat]
        simp [okK, hx]
      · refine ite_r (t := true) (by simp [hx]) (fun _ => ?_) (fun h => by cases h)
        simp
        refine ⟨?_, H.mod⟩
        have := hno (by simp [okK, hp1, hx])
        simpa using this
  · rintro env w' ⟨e3, e8, hall, rfl⟩
    simp [e3, e8, hb1, hS, hL]
    refine ite_r (t := false) (by simp) (fun h => by cases h) (fun _ => ?_)
    simp
    rw [List.take_length] at hall
    refine ⟨?_, H.mod⟩
    simpa using hall

set_option maxHeartbeats 1000000 in
theorem right_c {G : Nat → Prop} {w : World} {v : Value} {l : List Int} (n wm : Int) (h : Rd G w v l.length (intsV l)) (hl : l.length ≤ 1000000) : Calls Try.prog 45 [.int .i64 n, .int .i64 wm, v].toArray w (Ret fun r w' => r = .bool (rightB n wm l) ∧ w' = w) := by
  refine F_sound c45 (by simp [fc45]) ?_
  obtain ⟨hS, hL⟩ := h.sl
  simp [fc45, s45]
  refine callp (prow_c n wm) (by simp) ?_
  unfold rightB
  by_cases hr : rowB n wm = true
  rotate_left
  · simp [hr, hS, hL]
    refine ite_r (t := true) (by simp [hr]) (fun _ => ?_) (fun h => by cases h)
    simp
  have hr' := rowB_iff.1 hr
  have hw1 : IntKind.i64.wrap (n - wm) = n - wm := wI (by omega) (by omega)
  simp [hr, hS, hL, hw1]
  by_cases hn : (l.length : Int) = n - wm
  rotate_left
  · refine ite_r (t := true) (by simp [hn]) (fun _ => ?_) (fun h => by cases h)
    simp [hn]
  refine ite_r (t := false) (by simp [hn]) (fun h => by cases h) (fun _ => ?_)
  simp [hS, hL, hn]
  rw [← hn]
  refine for_r l.length (fun i env' w' => env' 21 = v ∧ env' 22 = .int .i64 l.length ∧ env' 23 = .int .i64 i ∧ allW (l.take i) = true ∧ w' = w) ?_ ?_ ?_
  · simp [allW, hL, hn]
  · rintro i env w' hi ⟨e21, e22, e23, hall, rfl⟩
    simp [e22, e23]
    refine ite_r (t := true) (by simp; omega) (fun _ => ?_) (fun h => by cases h)
    simp [wp_blk]
    have hg := h.gi i hi
    have hp := h.some (by omega)
    simp [e21, e23, hS, hL, hi, hg, hp]
    have hat := allW_take hall hi
    have hno := @allW_not l i hi
    generalize gi l i = x at *
    by_cases hx : wideB x = true
    · have hx' := wideB_iff.1 hx
      refine ite_r (t := false) (by simp; omega) (fun h => by cases h) (fun _ => ?_)
      have hw1 : IntKind.i64.wrap ((i : Int) + 1) = ((i + 1 : Nat) : Int) := by rw [wI (by omega) (by omega)]; omega
      simp [-Int.natCast_add, hw1, e21, e22, e23]
      exact ⟨by omega, by rw [hat]; exact hx⟩
    · have hx' := hx
      rw [wideB_iff] at hx'
      refine ite_r (t := true) (by simp; omega) (fun _ => ?_) (fun h => by cases h)
      simp
      exact hno (by simpa using hx)
  · rintro env w' ⟨e21, e22, e23, hall, rfl⟩
    simp [e22, e23]
    refine ite_r (t := false) (by simp) (fun h => by cases h) (fun _ => ?_)
    simp
    rwa [List.take_length] at hall

def rawI (l : List Int) : Int := 5 + (widL l : Int) * (l.length : Int)
def pcostI (k : Int) (l : List Int) : Int := if k = 31 then rawI l else sumI k l
theorem mul32 (a b : Nat) (ha : a ≤ 32) (hb : b ≤ 1000000) : (0 : Int) ≤ (a : Int) * (b : Int) ∧ (a : Int) * (b : Int) ≤ 32000000 := by
  have := mul_bd0 (a := (a : Int)) (b := (b : Int)) (A := 32) (B := 1000000) (by omega) (by omega) (by omega) (by omega)
  omega
theorem rawI_bd (l : List Int) (hl : l.length ≤ 1000000) : 5 ≤ rawI l ∧ rawI l ≤ 32000005 := by
  have := mul32 (widL l) l.length (widL_le l) hl
  unfold rawI; omega
theorem sumI_bd (k : Int) (l : List Int) : 0 ≤ sumI k l ∧ sumI k l ≤ 65 * (l.length : Int) := sumTo_bd k l l.length
theorem pcostI_bd (k : Int) (l : List Int) (hl : l.length ≤ 1000000) : 0 ≤ pcostI k l ∧ pcostI k l ≤ 65000000 := by
  have h1 := rawI_bd l hl
  have h2 := sumI_bd k l
  unfold pcostI
  split <;> omega

theorem raw_c {G : Nat → Prop} {w : World} {v : Value} {l : List Int} (h : Rd G w v l.length (intsV l)) (hl : l.length ≤ 1000000) : Calls Try.prog 46 [v].toArray w (Ret fun r w' => r = .int .i64 (rawI l) ∧ w' = w) := by
  refine F_sound c46 (by simp [fc46]) ?_
  obtain ⟨hS, hL⟩ := h.sl
  have hm := mul32 (widL l) l.length (widL_le l) hl
  simp [fc46, s46]
  refine callp (width_c' h hl) (by simp) ?_
  have hw1 : IntKind.i64.wrap ((widL l : Int) * (l.length : Int)) = (widL l : Int) * (l.length : Int) := wI (by omega) (by omega)
  have hw2 : IntKind.i64.wrap (5 + (widL l : Int) * (l.length : Int)) = 5 + (widL l : Int) * (l.length : Int) := wI (by omega) (by omega)
  simp [hS, hL, hw1, hw2, rawI]
theorem pcost_c {G : Nat → Prop} {w : World} {v : Value} {l : List Int} (k : Int) (h : Rd G w v l.length (intsV l)) (hl : l.length ≤ 1000000) : Calls Try.prog 47 [.int .i64 k, v].toArray w (Ret fun r w' => r = .int .i64 (pcostI k l) ∧ w' = w) := by
  refine F_sound c47 (by simp [fc47]) ?_
  obtain ⟨hS, hL⟩ := h.sl
  have hm := mul32 (widL l) l.length (widL_le l) hl
  simp [fc47, s47]
  unfold pcostI
  by_cases hk : k = 31
  · subst hk
    refine ite_r (t := true) (by simp) (fun _ => ?_) (fun h => by cases h)
    simp [hS, hL]
    refine callp (width2_c h hl) (by simp) ?_
    have hw1 : IntKind.i64.wrap ((l.length : Int) * (widL l : Int)) = (widL l : Int) * (l.length : Int) := by rw [Int.mul_comm]; exact wI (by omega) (by omega)
    have hw2 : IntKind.i64.wrap (5 + (widL l : Int) * (l.length : Int)) = 5 + (widL l : Int) * (l.length : Int) := wI (by omega) (by omega)
    simp [hS, hL, hw1, hw2, rawI]
  · refine ite_r (t := false) (by simp [hk]) (fun h => by cases h) (fun _ => ?_)
    simp [hk]
    refine callp (sum2_c k h hl) (by simp) ?_
    simp

end Go.Proofs.Ytajkofndbeohpaa.VG

/-! ## Parts: how a row is cut; what a plan costs. -/
namespace Go.Proofs.Ytajkofndbeohpaa.VG
open Go
set_option linter.unusedSimpArgs false
set_option linter.unusedVariables false

def atI (s : List Int) : Nat → Nat
  | 0 => 0
  | i + 1 => atI s i + (gi s i).toNat
def partI (s l : List Int) (i : Nat) : List Int := (l.drop (atI s i)).take (gi s i).toNat
def costTo (ks s l : List Int) : Nat → Int
  | 0 => 4
  | i + 1 => costTo ks s l i + (5 + pcostI (gi ks i) (partI s l i))
def costP (o : Int) (ks : List Int) (n wm : Int) (l : List Int) : Int := if mayB o ks n wm = true ∧ rightB n wm l = true then costTo ks (szS o n wm) l (szS o n wm).length else 0

theorem atI_mono (s : List Int) : ∀ i j, i ≤ j → atI s i ≤ atI s j
  | i, 0, h => by obtain rfl : i = 0 := by omega
                  exact Nat.le_refl _
  | i, j + 1, h => by
    by_cases he : i = j + 1
    · subst he; exact Nat.le_refl _
    · have := atI_mono s i j (by omega)
      simp only [atI]; omega
theorem costTo_bd (ks s l : List Int) (hl : l.length ≤ 1000000) : ∀ i : Nat, 4 + 5 * (i : Int) ≤ costTo ks s l i ∧ costTo ks s l i ≤ 4 + 65000005 * (i : Int)
  | 0 => by simp [costTo]
  | i + 1 => by
    have h1 := costTo_bd ks s l hl i
    have h2 := pcostI_bd (gi ks i) (partI s l i) (by unfold partI; simp; omega)
    simp only [costTo]
    omega
/-- The sizes of a row that may be cut. -/
theorem sz_fact {o n wm : Int} (h : szB o n wm = true) : (∀ i, i < (szS o n wm).length → 0 ≤ gi (szS o n wm) i ∧ gi (szS o n wm) i ≤ 4096) ∧ (atI (szS o n wm) (szS o n wm).length : Int) = n - wm ∧ 0 < (szS o n wm).length := by
  have hlen := szS_len o n wm
  rw [if_pos h] at hlen
  have hs : szS o n wm = (n / pw o - wm) :: List.replicate (2 ^ o.toNat - 1) (n / pw o) := by rw [szS, if_pos h]
  obtain ⟨hr, ⟨o0, o8⟩, hm, hw⟩ := szB_iff.1 h
  have hr' := rowB_iff.1 hr
  have hp := pw_bd o8
  have hP : pw o = ((2 ^ o.toNat : Nat) : Int) := rfl
  have hd := div_bd (n := n) (P := pw o) (by omega) (by omega)
  have hc := (cut_iff n (pw o)).2 hm
  generalize szS o n wm = s at *
  generalize n / pw o = q at *
  generalize 2 ^ o.toNat = P at *
  have g0 : gi s 0 = q - wm := by rw [hs]; rfl
  have gs : ∀ j, j + 1 < P → gi s (j + 1) = q := by
    intro j hj
    rw [hs]
    show (List.replicate (P - 1) q).getD j 0 = q
    rw [List.getD_eq_getElem?_getD, List.getElem?_replicate, if_pos (by omega)]; rfl
  have key : ∀ i : Nat, i < P → (atI s (i + 1) : Int) = ((i : Int) + 1) * q - wm := by
    intro i
    induction i with
    | zero =>
      intro _
      simp only [atI, g0]
      simp
      omega
    | succ i ih =>
      intro hi
      have := ih (by omega)
      rw [atI, gs i hi]
      have e : ((i + 1 : Nat) : Int) + 1 = (i : Int) + 1 + 1 := by omega
      rw [e, Int.add_mul ((i : Int) + 1) 1 q, Int.one_mul]
      omega
  refine ⟨fun i hi => ?_, ?_, by omega⟩
  · cases i with
    | zero => rw [g0]; omega
    | succ j => rw [gs j (by omega)]; omega
  · rw [hlen]
    obtain ⟨R, rfl⟩ : ∃ R, P = R + 1 := ⟨P - 1, by omega⟩
    rw [key R (by omega)]
    have e : ((R : Int) + 1) * q = n := by rw [Int.mul_comm, ← hc, hP]; rfl
    rw [e]

theorem pcost_k {G : Nat → Prop} {w : World} {v : Value} {l : List Int} (h : Rc G w v l.length (intsV l)) {s : List Int} {i : Nat} (hi : atI s (i + 1) ≤ l.length) {r : Value} (hr : Rc G w r (l.drop (atI s i)).length (intsV (l.drop (atI s i)))) :
    Rc G w (slVal 1 r 0 (gi s i).toNat) (partI s l i).length (intsV (partI s l i)) ∧ Rc G w (slVal 1 r (gi s i).toNat (l.drop (atI s i)).length) (l.drop (atI s (i + 1))).length (intsV (l.drop (atI s (i + 1)))) := by
  simp only [atI] at hi
  have h1 := hr.cuti 0 (gi s i).toNat (Nat.zero_le _) (by simp; omega)
  have h2 := hr.cuti (gi s i).toNat (l.drop (atI s i)).length (by simp; omega) (Nat.le_refl _)
  rw [List.take_length, List.drop_drop] at h2
  rw [List.drop_zero] at h1
  exact ⟨h1, h2⟩

set_option maxHeartbeats 2000000 in
theorem cost_p {G : Nat → Prop} {w : World} {kv v : Value} {ks l : List Int} (o n wm : Int) (h : Rd G w kv ks.length (intsV ks)) (hl : ks.length ≤ 1000000) (hv : Rc G w v l.length (intsV l)) (hvl : l.length ≤ 1000000) : Calls Try.prog 19 [planV o kv, .int .i64 n, .int .i64 wm, v].toArray w (Ret fun r w' => r = .int .i64 (costP o ks n wm l) ∧ Mod none' w w') := by
  refine F_sound c19 (by simp [fc19]) ?_
  obtain ⟨hS, hL⟩ := h.sl
  have h1c : kv.cells = #[kv] := by obtain ⟨cap, hv⟩ := h.is; rw [hv]; rfl
  simp [fc19, s19]
  refine box_h (planV o kv) (Hp.nil w) (by simp) ?_
  intro b w1 H M1
  refine ⟨.inl rfl, ?_⟩
  have hpc : (planV o kv).cells = #[.int .i64 o, kv] := by simp [planV, Value.cells, h1c, putAt]
  have hcl := cells_blk (H.blk 0 rfl) 2 (by rw [hpc]; rfl)
  have hb0 := H.blk 0 rfl 0
  have hb1 := H.blk 0 rfl 1
  rw [hpc] at hb0 hb1 hcl
  simp at hb0 hb1
  have hj : ∀ (j : Nat), j < 2 → (w1.cell? ⟨b, j, none⟩).isSome = true := by
    intro j hj
    obtain rfl | rfl : j = 0 ∨ j = 1 := by omega
    · rw [hb0]; rfl
    · rw [hb1]; rfl
  simp [hcl, hb0, hb1]
  refine ⟨hj, ?_⟩
  refine callm (may_c o n wm (h.at H.mod) hl) (by simp (disch := omega) [wI, wU, tmod_nn, tdiv_nn, env0_0, env0_1, env0_2, env0_3, env0_4, env0_5, -env0_apply, planV]) ?_
  intro w' M'
  replace H := H.same M'
  unfold costP
  have hzero : mayB o ks n wm = false → mayB o ks n wm = true ∧ rightB n wm l = true → False := fun a b => by rw [a] at b; simp at b
  by_cases hmay : mayB o ks n wm = true
  rotate_left
  · simp [hmay]
    refine ifg_r (t := true) (by simp) (fun h => by cases h) (fun _ => ?_)
    simp
    refine ite_r (t := true) (by simp) (fun _ => ?_) (fun h => by cases h)
    simp
    exact H.mod
  simp [hmay]
  refine ifg_r (t := false) (by simp) (fun _ => ?_) (fun h => (h rfl).elim)
  refine callp (right_c n wm (hv.rd.at H.mod) hvl) (by simp) ?_
  by_cases hright : rightB n wm l = true
  rotate_left
  · simp [hright]
    refine ite_r (t := true) (by simp) (fun _ => ?_) (fun h => by cases h)
    simp
    exact H.mod
  simp [hright]
  refine ite_r (t := false) (by simp) (fun h => by cases h) (fun _ => ?_)
  have hb0 := H.blk 0 rfl 0
  rw [hpc] at hb0
  simp at hb0
  simp [hb0]
  refine call_h (sizes_c o n wm) (by simp) ?_
  intro sv w2 H2
  replace H := H.join H2
  have hb1 := H.blk 0 rfl 1
  rw [hpc] at hb1
  simp at hb1
  have hB : szB o n wm = true := by simp [mayB] at hmay; exact hmay.1.1
  have hkl : ks.length = (szS o n wm).length := by simp [mayB] at hmay; exact hmay.1.2
  have hln : (l.length : Int) = n - wm := by simp [rightB] at hright; exact hright.1.2
  obtain ⟨hge, hat, hpos⟩ := sz_fact hB
  have hle := szS_le o n wm
  have srd := H.rd 1 rfl
  obtain ⟨sS, sL⟩ := srd.sl
  generalize szS o n wm = s at *
  simp [sS, sL]
  have h2 := h.at H.mod
  have hv2 := hv.at H.mod
  refine for_r s.length (fun i env' w' => env' 4 = .pointer (some ⟨b, 0, none⟩) ∧ env' 29 = sv ∧ env' 30 = .int .i64 s.length ∧ env' 31 = .int .i64 i ∧ env' 9 = .int .i64 (costTo ks s l i) ∧ Rc G w2 (env' 3) (l.drop (atI s i)).length (intsV (l.drop (atI s i))) ∧ w' = w2) ?_ ?_ ?_
  · simp [sL, costTo, atI]
    exact hv2
  · rintro i env w' hi ⟨e4, e29, e30, e31, e9, hr, rfl⟩
    simp [e30, e31]
    refine ite_r (t := true) (by simp; omega) (fun _ => ?_) (fun h => by cases h)
    simp [wp_blk]
    have hg := srd.gi i hi
    have hp := srd.some (by omega)
    have hg2 := h2.gi i (by omega)
    have hp2 := h2.some (by omega)
    have hmo := atI_mono s (i + 1) s.length hi
    obtain ⟨r1, r2⟩ := pcost_k hv2 (s := s) (i := i) (by omega) hr
    obtain ⟨rS, rL, rC⟩ := hr.sl
    obtain ⟨hg0, hg4⟩ := hge i hi
    have hrl : gi s i ≤ (slL (env 3) : Int) := by
      rw [rL, List.length_drop]
      simp only [atI] at hmo
      omega
    have hrc : gi s i ≤ (slC (env 3) : Int) := by omega
    rw [← rL] at r2
    generalize env 3 = rv at *
    obtain ⟨pS, pL⟩ := r1.rd.sl
    have hcb := costTo_bd ks s l hvl i
    have hpb := pcostI_bd (gi ks i) (partI s l i) (by unfold partI; simp; omega)
    have hrb := rawI_bd (partI s l i) (by unfold partI; simp; omega)
    simp [e4, e29, e31, sS, sL, hi, hg, hp, rS, hg0, hrl, hrc, hb1, hS, hL, hg2, hp2, show i < ks.length by omega]
    have hplen : (partI s l i).length ≤ 1000000 := by unfold partI; simp; omega
    have hw1 : IntKind.i64.wrap ((i : Int) + 1) = ((i + 1 : Nat) : Int) := by rw [wI (by omega) (by omega)]; omega
    have hp31 : pcostI (gi ks i) (partI s l i) = if gi ks i = 31 then rawI (partI s l i) else sumI (gi ks i) (partI s l i) := rfl
    by_cases hk : gi ks i = 31
    · rw [if_pos hk] at hp31
      refine ⟨by omega, ?_⟩
      refine ite_r (t := true) (by simp [hk]) (fun _ => ?_) (fun h => by cases h)
      refine callp (raw_c r1.rd hplen) (by simp) ?_
      rw [← hp31]
      have hw2 : IntKind.i64.wrap (5 + pcostI (gi ks i) (partI s l i)) = 5 + pcostI (gi ks i) (partI s l i) := wI (by omega) (by omega)
      have hw3 : IntKind.i64.wrap (costTo ks s l i + (5 + pcostI (gi ks i) (partI s l i))) = costTo ks s l (i + 1) := wI (by omega) (by omega)
      simp [-Int.natCast_add, hw1, hw2, hw3, e4, e9, e29, e30, e31]
      rw [List.length_drop] at r2
      exact ⟨by omega, r2⟩
    · rw [if_neg hk] at hp31
      refine ⟨by omega, ?_⟩
      refine ite_r (t := false) (by simp [hk]) (fun h => by cases h) (fun _ => ?_)
      simp [e4, hb1, hS, hL, hg2, hp2, show i < ks.length by omega]
      refine callp (sum_c (gi ks i) r1.rd hplen) (by simp) ?_
      rw [← hp31]
      have hw2 : IntKind.i64.wrap (5 + pcostI (gi ks i) (partI s l i)) = 5 + pcostI (gi ks i) (partI s l i) := wI (by omega) (by omega)
      have hw3 : IntKind.i64.wrap (costTo ks s l i + (5 + pcostI (gi ks i) (partI s l i))) = costTo ks s l (i + 1) := wI (by omega) (by omega)
      simp [-Int.natCast_add, hw1, hw2, hw3, e4, e9, e29, e30, e31]
      rw [List.length_drop] at r2
      exact ⟨by omega, r2⟩
  · rintro env w' ⟨e4, e29, e30, e31, e9, hr, rfl⟩
    simp [e30, e31]
    refine ite_r (t := false) (by simp) (fun h => by cases h) (fun _ => ?_)
    simp [e9]
    exact H.mod

set_option maxHeartbeats 2000000 in
theorem cost2_p {G : Nat → Prop} {w : World} {kv v : Value} {ks l : List Int} (o n wm : Int) (h : Rd G w kv ks.length (intsV ks)) (hl : ks.length ≤ 1000000) (hv : Rc G w v l.length (intsV l)) (hvl : l.length ≤ 1000000) : Calls Try.prog 20 [planV o kv, .int .i64 n, .int .i64 wm, v].toArray w (Ret fun r w' => r = .int .i64 (costP o ks n wm l) ∧ Mod none' w w') := by
  refine F_sound c20 (by simp [fc20]) ?_
  obtain ⟨hS, hL⟩ := h.sl
  obtain ⟨vS, vL, vC⟩ := hv.sl
  have h1c : kv.cells = #[kv] := by obtain ⟨cap, hv⟩ := h.is; rw [hv]; rfl
  simp [fc20, s20]
  refine box_h (planV o kv) (Hp.nil w) (by simp) ?_
  intro b w1 H M1
  refine ⟨.inl rfl, ?_⟩
  have hpc : (planV o kv).cells = #[.int .i64 o, kv] := by simp [planV, Value.cells, h1c, putAt]
  have hcl := cells_blk (H.blk 0 rfl) 2 (by rw [hpc]; rfl)
  have hb0 := H.blk 0 rfl 0
  have hb1 := H.blk 0 rfl 1
  rw [hpc] at hb0 hb1 hcl
  simp at hb0 hb1
  have hj : ∀ (j : Nat), j < 2 → (w1.cell? ⟨b, j, none⟩).isSome = true := by
    intro j hj
    obtain rfl | rfl : j = 0 ∨ j = 1 := by omega
    · rw [hb0]; rfl
    · rw [hb1]; rfl
  simp [hcl, hb0, hb1]
  refine ⟨hj, ?_⟩
  refine callm (may2_c o n wm (h.at H.mod) hl) (by simp (disch := omega) [wI, wU, tmod_nn, tdiv_nn, env0_0, env0_1, env0_2, env0_3, env0_4, env0_5, -env0_apply, planV]) ?_
  intro w' M'
  replace H := H.same M'
  unfold costP
  have hB : mayB o ks n wm = true → szB o n wm = true := fun hmay => by simp [mayB] at hmay; exact hmay.1.1
  by_cases hmay : mayB o ks n wm = true
  rotate_left
  · simp [hmay]
    refine ifg_r (t := true) (by simp) (fun h => by cases h) (fun _ => ?_)
    simp
    refine ite_r (t := true) (by simp) (fun _ => ?_) (fun h => by cases h)
    simp
    exact H.mod
  replace hB := hB hmay
  have hr' := rowB_iff.1 (szB_iff.1 hB).1
  have hwn : IntKind.i64.wrap (n - wm) = n - wm := wI (by omega) (by omega)
  simp [hmay, vS, vL, hwn]
  by_cases hln : (l.length : Int) = n - wm
  rotate_left
  · refine ifg_r (t := true) (by simp [hln]) (fun h => by cases h) (fun _ => ?_)
    simp
    refine ⟨fun h => absurd h hln, ?_⟩
    refine ite_r (t := true) (by simp [hln]) (fun _ => ?_) (fun h => by cases h)
    simp [rightB, hln]
    exact H.mod
  refine ifg_r (t := false) (by simp [hln]) (fun _ => ?_) (fun h => (h rfl).elim)
  refine callp (allWide2_c (hv.rd.at H.mod) (by unfold maxLen; omega)) (by simp) ?_
  have hre : rightB n wm l = allW l := by simp [rightB, (szB_iff.1 hB).1, hln]
  rw [hre]
  by_cases hright : allW l = true
  rotate_left
  · simp [hright]
    refine ite_r (t := true) (by simp) (fun _ => ?_) (fun h => by cases h)
    simp
    exact H.mod
  simp [hright]
  refine ite_r (t := false) (by simp [hln]) (fun h => by cases h) (fun _ => ?_)
  have hb0 := H.blk 0 rfl 0
  rw [hpc] at hb0
  simp at hb0
  simp [hb0, hright]
  refine call_h (sizes2_c o n wm) (by simp) ?_
  intro sv w2 H2
  replace H := H.join H2
  have hb1 := H.blk 0 rfl 1
  rw [hpc] at hb1
  simp at hb1
  have hkl : ks.length = (szS o n wm).length := by simp [mayB] at hmay; exact hmay.1.2
  obtain ⟨hge, hat, hpos⟩ := sz_fact hB
  have hle := szS_le o n wm
  have srd := H.rd 1 rfl
  obtain ⟨sS, sL⟩ := srd.sl
  generalize szS o n wm = s at *
  simp
  have h2 := h.at H.mod
  have hv2 := hv.at H.mod
  refine for_r s.length (fun i env' w' => env' 4 = .pointer (some ⟨b, 0, none⟩) ∧ env' 11 = sv ∧ env' 12 = .int .i64 i ∧ env' 9 = .int .i64 (costTo ks s l i) ∧ env' 10 = .int .i64 (atI s i) ∧ env' 3 = v ∧ Mod none' w2 w') ?_ ?_ ?_
  · simp [costTo, atI]
    exact Mod.refl _ _
  · rintro i env w' hi ⟨e4, e11, e12, e9, e10, e3, M⟩
    simp [e11, e12, sS, sL]
    refine ite_r (t := true) (by simp; omega) (fun _ => ?_) (fun h => by cases h)
    simp [wp_blk]
    replace M := M.drew
    replace H := H.same M
    have srd' := srd.at M
    have h2' := h2.at M
    have hv2' := hv2.at M
    have hb1' := H.blk 0 rfl 1
    rw [hpc] at hb1'
    simp at hb1'
    have hg := srd'.gi i hi
    have hp := srd'.some (by omega)
    have hg2 := h2'.gi i (by omega)
    have hp2 := h2'.some (by omega)
    rw [cell_drew] at hg hg2
    have hmo := atI_mono s (i + 1) s.length hi
    obtain ⟨hg0, hg4⟩ := hge i hi
    have ha1 : (atI s (i + 1) : Int) = atI s i + gi s i := by simp only [atI]; omega
    have r1 := hv2'.cuti (atI s i) (atI s (i + 1)) (by omega) (by omega)
    have hpi : (l.take (atI s (i + 1))).drop (atI s i) = partI s l i := by
      rw [List.drop_take, partI]
      simp only [atI]
      rw [Nat.add_sub_cancel_left]
    rw [hpi] at r1
    have hcb := costTo_bd ks s l hvl i
    have hplen : (partI s l i).length ≤ 1000000 := by unfold partI; simp; omega
    have hpb := pcostI_bd (gi ks i) (partI s l i) hplen
    have hw1 : IntKind.i64.wrap ((i : Int) + 1) = ((i + 1 : Nat) : Int) := by rw [wI (by omega) (by omega)]; omega
    have hwa : IntKind.i64.wrap ((atI s i : Int) + gi s i) = (atI s (i + 1) : Int) := by rw [wI (by omega) (by omega)]; omega
    have hw2 : IntKind.i64.wrap (costTo ks s l i + 5) = costTo ks s l i + 5 := wI (by omega) (by omega)
    have hw3 : IntKind.i64.wrap (costTo ks s l i + 5 + pcostI (gi ks i) (partI s l i)) = costTo ks s l (i + 1) := by rw [wI (by omega) (by omega)]; simp only [costTo]; omega
    have hc1 : (atI s (i + 1) : Int) ≤ (slC v : Int) := by omega
    have hc2 : (atI s i : Int) ≤ (atI s (i + 1) : Int) := by omega
    simp [e3, e4, e9, e10, e11, e12, sS, sL, hi, hg, hp, hb1', hS, hL, hg2, hp2, vS, vL, show i < ks.length by omega, hwa, hw2]
    refine ⟨⟨by omega, by omega⟩, ?_⟩
    refine callp (pcost_c (gi ks i) r1.rd hplen) (by simp [e3, e10, hwa]) ?_
    simp [-Int.natCast_add, e3, e4, e9, e10, e11, e12, sS, sL, hi, hg, hp, hwa, hw1, hw2, hw3]
    exact ⟨by omega, M⟩
  · rintro env w' ⟨e4, e11, e12, e9, e10, e3, M⟩
    simp [e11, e12, sS, sL]
    refine ite_r (t := false) (by simp) (fun h => by cases h) (fun _ => ?_)
    simp [e9]
    exact H.mod.tr M

end Go.Proofs.Ytajkofndbeohpaa.VG

/-! ## Parts: a row as bits, by the program. -/
namespace Go.Proofs.Ytajkofndbeohpaa.VG
open Go
set_option linter.unusedSimpArgs false
set_option linter.unusedVariables false

def lowU (x : Int) (w : Nat) : Nat := (x % ((2 ^ w : Nat) : Int)).toNat
def rawB (w : Nat) (l : List Int) : List Bool := l.flatMap fun x => toB (lowU x w) w
def partB (k : Int) (l : List Int) : List Bool := toB k.toNat 5 ++ (if k = 31 then toB (widL l) 5 ++ rawB (widL l) l else riceBs k.toNat l)
def putTo (o : Int) (ks s l : List Int) : Nat → List Bool
  | 0 => toB o.toNat 4
  | i + 1 => putTo o ks s l i ++ partB (gi ks i) (partI s l i)
def putB (o : Int) (ks : List Int) (n wm : Int) (l : List Int) : List Bool := putTo o ks (szS o n wm) l (szS o n wm).length

theorem lowU_lt (x : Int) (w : Nat) : lowU x w < 2 ^ w := by
  have h0 := Nat.two_pow_pos w
  have h1 := Int.emod_nonneg x (show ((2 ^ w : Nat) : Int) ≠ 0 by omega)
  have h2 := Int.emod_lt_of_pos x (show 0 < ((2 ^ w : Nat) : Int) by omega)
  unfold lowU
  generalize x % ((2 ^ w : Nat) : Int) = t at *
  generalize 2 ^ w = P at *
  omega
theorem and_w (x : Int) (j : Nat) (hj : j < 64) : bitw .and .u64 (IntKind.u64.wrap x) ((2 ^ j - 1 : Nat) : Int) = (lowU x j : Int) := by
  obtain ⟨q, h1, h2, h3⟩ := wrap_u64_is x
  obtain ⟨N, hN⟩ : ∃ N : Nat, IntKind.u64.wrap x = N := ⟨(IntKind.u64.wrap x).toNat, by omega⟩
  rw [hN] at h1 h2 h3 ⊢
  rw [and_u N j (by omega) hj]
  have hP := Nat.two_pow_pos j
  have e : x % ((2 ^ j : Nat) : Int) = (N : Int) % ((2 ^ j : Nat) : Int) := by
    rw [h1]
    have hd : (18446744073709551616 : Int) = ((2 ^ j : Nat) : Int) * ((2 ^ (64 - j) : Nat) : Int) := by
      rw [← Int.natCast_mul, ← Nat.pow_add, show j + (64 - j) = 64 by omega]; rfl
    rw [hd, Int.mul_assoc, Int.add_mul_emod_self_left]
  unfold lowU
  rw [e, ← Int.natCast_emod, Int.toNat_natCast]
theorem shl1_u (j : Nat) (hj : j < 64) : IntKind.u64.wrap (shl .u64 1 (j : Int) - 1) = ((2 ^ j - 1 : Nat) : Int) ∧ shl .u64 1 (j : Int) = ((2 ^ j : Nat) : Int) := by
  have h2 : 2 ^ j ≤ 2 ^ 63 := Nat.pow_le_pow_right (by omega) (by omega)
  have h3 := Nat.two_pow_pos j
  have hs : shl .u64 1 (j : Int) = ((2 ^ j : Nat) : Int) := by
    rw [shl_int _ _ _ (by simp only [IntKind.bits]; omega), Int.one_mul]
    exact wrap_nat_u64 (by omega)
  refine ⟨?_, hs⟩
  rw [hs, show ((2 ^ j : Nat) : Int) - 1 = ((2 ^ j - 1 : Nat) : Int) by omega]
  exact wrap_nat_u64 (by omega)

theorem fit31 {x : Int} (h : wideB x = true) : fitB x 31 = true := by
  have := wideB_iff.1 h
  simp [fitB, lowI, highI]
  omega
theorem widX_31 {x : Int} (h : wideB x = true) {w : Nat} (hw : w ≤ 31) : widX w x ≤ 31 := by
  have key : ∀ f w, w + f = 32 → w ≤ 31 → widF x f w ≤ 31 := by
    intro f
    induction f with
    | zero => intro w h1 h2; omega
    | succ f ih =>
      intro w h1 h2
      simp only [widF]
      split
      · rename_i hc
        by_cases h31 : w = 31
        · subst h31; rw [fit31 h] at hc; exact absurd hc.2 (by simp)
        · exact ih (w + 1) (by omega) (by omega)
      · exact h2
  exact key (32 - w) w (by omega) hw
theorem foldX_31 : ∀ (l : List Int) (w : Nat), allW l = true → w ≤ 31 → l.foldl widX w ≤ 31
  | [], w, _, h => h
  | x :: r, w, ha, h => by
    simp only [allW, List.all_cons, Bool.and_eq_true] at ha
    exact foldX_31 r (widX w x) ha.2 (widX_31 ha.1 h)
theorem widL_31 {l : List Int} (h : allW l = true) : widL l ≤ 31 := foldX_31 l 0 h (by omega)
theorem allW_sub {l m : List Int} (h : allW l = true) (hm : ∀ x ∈ m, x ∈ l) : allW m = true := by
  simp only [allW, List.all_eq_true] at *
  exact fun x hx => h x (hm x hx)
theorem allW_part {l : List Int} (h : allW l = true) (s : List Int) (i : Nat) : allW (partI s l i) = true :=
  allW_sub h fun x hx => List.mem_of_mem_drop (List.mem_of_mem_take hx)
theorem rawB_len (w : Nat) (l : List Int) : (rawB w l).length = w * l.length := by
  induction l with
  | nil => simp [rawB]
  | cons x r ih => simp only [rawB, List.flatMap_cons, List.length_append, toB_length, List.length_cons] at ih ⊢; rw [ih, Nat.mul_succ]; omega
theorem rawB_snoc (w : Nat) (l : List Int) (i : Nat) (h : i < l.length) : rawB w (l.take (i + 1)) = rawB w (l.take i) ++ toB (lowU (gi l i) w) w := by
  rw [gi_take_snoc l i h]; simp [rawB]
theorem partB_le {k : Int} (hk : okK k = true) (l : List Int) : (partB k l).length ≤ 10 + 65 * l.length := by
  have h1 := widL_le l
  have h2 := rawB_len (widL l) l
  have h3 : widL l * l.length ≤ 32 * l.length := Nat.mul_le_mul_right _ h1
  unfold partB
  split
  · simp [toB_length, h2]; omega
  · rename_i hk31
    have hp : paramB k = true := by simpa [okK, hk31] using hk
    have hp' := paramB_iff.1 hp
    have h4 := riceBs_le (show k.toNat ≤ 25 by omega) l
    simp [toB_length]; omega
theorem putTo_le {ks : List Int} (hk : ks.all okK = true) (o : Int) (s l : List Int) : ∀ i, i ≤ ks.length → (putTo o ks s l i).length ≤ 4 + i * (10 + 65 * l.length)
  | 0, _ => by simp [putTo, toB_length]
  | i + 1, hi => by
    have h1 := putTo_le hk o s l i (by omega)
    have h2 := partB_le (k := gi ks i) (by rw [List.all_eq_true] at hk; exact hk _ (gi_mem ks i (by omega))) (partI s l i)
    have h3 : (partI s l i).length ≤ l.length := by unfold partI; simp; omega
    simp only [putTo, List.length_append]
    rw [Nat.succ_mul]
    omega

theorem costP_zero {o : Int} {ks : List Int} {n wm : Int} {l : List Int} (hl : l.length ≤ 1000000) : costP o ks n wm l = 0 ↔ ¬ (mayB o ks n wm = true ∧ rightB n wm l = true) := by
  unfold costP
  split
  · rename_i h
    have := costTo_bd ks (szS o n wm) l hl (szS o n wm).length
    simp only [h, and_self, not_true_eq_false, iff_false]
    omega
  · rename_i h; simp [h]

/-- A writer goes on. -/
theorem WrAfter.next {w w1 w2 : World} {F F1 : Nat → Prop} {b : Nat} {bs : List Bool} (hm : Mod F w w1) (hF : ∀ k, F1 k → F k ∨ w.heap.size ≤ k) (h : WrAfter w1 F1 b bs w2) : WrAfter w F b bs w2 := WrAfter.step hm hF h

set_option maxHeartbeats 1000000 in
theorem pput_no {G : Nat → Prop} {w : World} {b : Nat} {kv v : Value} {ks l : List Int} (o n wm : Int) (h : Rd G w kv ks.length (intsV ks)) (hl : ks.length ≤ 1000000) (hv : Rc G w v l.length (intsV l)) (hvl : l.length ≤ 1000000) (hok : ¬ (mayB o ks n wm = true ∧ rightB n wm l = true)) :
    Calls Try.prog 21 [.pointer (some ⟨b, 0, none⟩), planV o kv, .int .i64 n, .int .i64 wm, v].toArray w (Ret fun r w' => r = .int .i64 1 ∧ Mod none' w w') := by
  refine F_sound c21 (by simp [fc21]) ?_
  obtain ⟨hS, hL⟩ := h.sl
  have h1c : kv.cells = #[kv] := by obtain ⟨cap, hv⟩ := h.is; rw [hv]; rfl
  simp [fc21, s21]
  refine box_h (planV o kv) (Hp.nil w) (by simp) ?_
  intro t w1 H M1
  refine ⟨.inl rfl, ?_⟩
  have hpc : (planV o kv).cells = #[.int .i64 o, kv] := by simp [planV, Value.cells, h1c, putAt]
  have hcl := cells_blk (H.blk 0 rfl) 2 (by rw [hpc]; rfl)
  have hb0 := H.blk 0 rfl 0
  have hb1 := H.blk 0 rfl 1
  rw [hpc] at hb0 hb1 hcl
  simp at hb0 hb1
  have hj : ∀ (j : Nat), j < 2 → (w1.cell? ⟨t, j, none⟩).isSome = true := by
    intro j hj
    obtain rfl | rfl : j = 0 ∨ j = 1 := by omega
    · rw [hb0]; rfl
    · rw [hb1]; rfl
  simp [hcl, hb0, hb1]
  refine ⟨hj, ?_⟩
  refine callm (cost_p o n wm (h.at H.mod) hl (hv.at H.mod) hvl) (by simp (disch := omega) [wI, wU, tmod_nn, tdiv_nn, env0_0, env0_1, env0_2, env0_3, env0_4, env0_5, -env0_apply, planV]) ?_
  intro w' M'
  replace H := H.same M'
  have hz := @costP_zero o ks n wm l hvl
  simp [hz.2 hok]
  refine ite_r (t := true) (by simp) (fun _ => ?_) (fun h => by cases h)
  simp
  exact H.mod

set_option maxHeartbeats 1000000 in
theorem xpput_no {G : Nat → Prop} {w : World} {b : Nat} {kv v : Value} {ks l : List Int} (o n wm : Int) (h : Rd G w kv ks.length (intsV ks)) (hl : ks.length ≤ 1000000) (hv : Rc G w v l.length (intsV l)) (hvl : l.length ≤ 1000000) (hok : ¬ (mayB o ks n wm = true ∧ rightB n wm l = true)) :
    Calls Try.prog 22 [.pointer (some ⟨b, 0, none⟩), planV o kv, .int .i64 n, .int .i64 wm, v].toArray w (Ret fun r w' => r = .int .i64 1 ∧ Mod none' w w') := by
  refine F_sound c22 (by simp [fc22]) ?_
  obtain ⟨hS, hL⟩ := h.sl
  have h1c : kv.cells = #[kv] := by obtain ⟨cap, hv⟩ := h.is; rw [hv]; rfl
  simp [fc22, s22]
  refine box_h (planV o kv) (Hp.nil w) (by simp) ?_
  intro t w1 H M1
  refine ⟨.inl rfl, ?_⟩
  have hpc : (planV o kv).cells = #[.int .i64 o, kv] := by simp [planV, Value.cells, h1c, putAt]
  have hcl := cells_blk (H.blk 0 rfl) 2 (by rw [hpc]; rfl)
  have hb0 := H.blk 0 rfl 0
  have hb1 := H.blk 0 rfl 1
  rw [hpc] at hb0 hb1 hcl
  simp at hb0 hb1
  have hj : ∀ (j : Nat), j < 2 → (w1.cell? ⟨t, j, none⟩).isSome = true := by
    intro j hj
    obtain rfl | rfl : j = 0 ∨ j = 1 := by omega
    · rw [hb0]; rfl
    · rw [hb1]; rfl
  simp [hcl, hb0, hb1]
  refine ⟨hj, ?_⟩
  refine callm (cost2_p o n wm (h.at H.mod) hl (hv.at H.mod) hvl) (by simp (disch := omega) [wI, wU, tmod_nn, tdiv_nn, env0_0, env0_1, env0_2, env0_3, env0_4, env0_5, -env0_apply, planV]) ?_
  intro w' M'
  replace H := H.same M'
  have hz := @costP_zero o ks n wm l hvl
  simp [hz.2 hok]
  refine ite_r (t := true) (by simp) (fun _ => ?_) (fun h => by cases h)
  simp
  exact H.mod

set_option maxHeartbeats 4000000 in
theorem pput_yes {F G : Nat → Prop} {w : World} {b : Nat} {bs : List Bool} {kv v : Value} {ks l : List Int} (o n wm : Int) (hW0 : Wr w F b bs) (h : Rd G w kv ks.length (intsV ks)) (hl : ks.length ≤ 1000000) (hv : Rc G w v l.length (intsV l)) (hvl : l.length ≤ 1000000)
    (hd : ∀ k, F k → ¬ G k) (hG : ∀ k, G k → k < w.heap.size) (hbs : bs.length ≤ 1000000) (hok : mayB o ks n wm = true ∧ rightB n wm l = true) :
    Calls Try.prog 21 [.pointer (some ⟨b, 0, none⟩), planV o kv, .int .i64 n, .int .i64 wm, v].toArray w (Ret fun r w' => r = .int .i64 0 ∧ WrAfter w F b (bs ++ putB o ks n wm l) w') := by
  refine F_sound c21 (by simp [fc21]) ?_
  obtain ⟨hS, hL⟩ := h.sl
  have h1c : kv.cells = #[kv] := by obtain ⟨cap, hv⟩ := h.is; rw [hv]; rfl
  simp [fc21, s21]
  refine box_h (planV o kv) (Hp.nil w) (by simp) ?_
  intro t w1 H M1
  refine ⟨.inl rfl, ?_⟩
  have hpc : (planV o kv).cells = #[.int .i64 o, kv] := by simp [planV, Value.cells, h1c, putAt]
  have hcl := cells_blk (H.blk 0 rfl) 2 (by rw [hpc]; rfl)
  have hb0 := H.blk 0 rfl 0
  have hb1 := H.blk 0 rfl 1
  rw [hpc] at hb0 hb1 hcl
  simp at hb0 hb1
  have hj : ∀ (j : Nat), j < 2 → (w1.cell? ⟨t, j, none⟩).isSome = true := by
    intro j hj
    obtain rfl | rfl : j = 0 ∨ j = 1 := by omega
    · rw [hb0]; rfl
    · rw [hb1]; rfl
  simp [hcl, hb0, hb1]
  refine ⟨hj, ?_⟩
  refine callm (cost_p o n wm (h.at H.mod) hl (hv.at H.mod) hvl) (by simp (disch := omega) [wI, wU, tmod_nn, tdiv_nn, env0_0, env0_1, env0_2, env0_3, env0_4, env0_5, -env0_apply, planV]) ?_
  intro w' M'
  replace H := H.same M'
  have hz := @costP_zero o ks n wm l hvl
  have hnz : ¬ costP o ks n wm l = 0 := fun e => hz.1 e hok
  simp
  refine ite_r (t := false) (by simp [hnz]) (fun h => by cases h) (fun _ => ?_)
  obtain ⟨hmay, hright⟩ := hok
  have hB : szB o n wm = true := by simp [mayB] at hmay; exact hmay.1.1
  have hkl : ks.length = (szS o n wm).length := by simp [mayB] at hmay; exact hmay.1.2
  have hka : ks.all okK = true := by simp only [mayB, Bool.and_eq_true] at hmay; exact hmay.2
  have hln : (l.length : Int) = n - wm := by simp [rightB] at hright; exact hright.1.2
  have hla : allW l = true := by simp only [rightB, Bool.and_eq_true] at hright; exact hright.2
  obtain ⟨_, ⟨o0, o8⟩, _, _⟩ := szB_iff.1 hB
  obtain ⟨hge, hat, hpos⟩ := sz_fact hB
  have hr' := rowB_iff.1 (szB_iff.1 hB).1
  have hb0 := H.blk 0 rfl 0
  have hb1 := H.blk 0 rfl 1
  rw [hpc] at hb0 hb1
  simp at hb0 hb1
  have hwo : IntKind.u64.wrap o = ((o.toNat : Nat) : Int) := by rw [wU (by omega) (by omega)]; omega
  simp [hb0]
  -- the order
  have hW := hW0.mod H.mod (fun _ _ h => h)
  refine call_h (put_yes hW o.toNat 4 (by omega) (by omega) (by omega)) (by simp [hb0, hwo]) ?_
  rintro r w2 ⟨rfl, A⟩
  obtain ⟨F2, hW2, MW2, hF2⟩ := A
  have hnew := H.blkNew 0 rfl
  have hw0 := H.mod.size
  have hF2lt := hW2.lt
  have hn2 : ∀ k, k = t → ¬ F2 k := fun k e hk => by
    subst e
    rcases hF2 k hk with h | h
    · have := hW0.lt k h; omega
    · omega
  have hnF : ¬ F t := fun hk => by have := hW0.lt t hk; omega
  have hd2 : ∀ k, F2 k → ¬ G k := fun k hk hk' => by
    rcases hF2 k hk with h | h
    · exact hd k h hk'
    · have := hG k hk'; omega
  replace hb0 := MW2.cell hb0 hnF
  replace hb1 := MW2.cell hb1 hnF
  have h3 := (h.at H.mod).mod MW2 (fun k hk hk' => hd k hk' hk)
  have hv3 := (hv.at H.mod).mod MW2 (fun k hk hk' => hd k hk' hk)
  simp [hb0]
  refine call_h (sizes_c o n wm) (by simp [hb0]) ?_
  intro sv w3 HR
  have srd := HR.rd 0 rfl
  obtain ⟨sS, sL⟩ := srd.sl
  replace hb1 := HR.mod.cell hb1 (fun h => h)
  replace h3 := h3.at HR.mod
  replace hv3 := hv3.at HR.mod
  have hW3 := hW2.mod HR.mod (fun _ _ h => h)
  have hw3 := HR.mod.size
  have hle := szS_le o n wm
  have hpl : ∀ i, i ≤ ks.length → (putTo o ks (szS o n wm) l i).length ≤ 4 + i * (10 + 65 * l.length) := putTo_le hka o (szS o n wm) l
  have hfin : putB o ks n wm l = putTo o ks (szS o n wm) l (szS o n wm).length := rfl
  rw [hfin]
  generalize szS o n wm = s at *
  simp [sS, sL]
  have hw2 := MW2.size
  refine for_r s.length (fun i env' w' => env' 0 = .pointer (some ⟨b, 0, none⟩) ∧ env' 6 = .pointer (some ⟨t, 0, none⟩) ∧ env' 32 = sv ∧ env' 33 = .int .i64 s.length ∧ env' 34 = .int .i64 i ∧ Rc G w3 (env' 4) (l.drop (atI s i)).length (intsV (l.drop (atI s i))) ∧ WrAfter w3 F2 b (bs ++ putTo o ks s l i) w') ?_ ?_ ?_
  · simp [sL, atI, putTo]
    exact ⟨hv3, WrAfter.refl hW3⟩
  · rintro i env w' hi ⟨e0, e6, e32, e33, e34, hr, A⟩
    simp [e33, e34]
    refine ite_r (t := true) (by simp; omega) (fun _ => ?_) (fun h => by cases h)
    simp [wp_blk]
    obtain ⟨F', hW', M, hF'⟩ := A
    have srd' := srd.mod M (fun k hk hk' => by have := hW2.lt k hk'; omega)
    have h' := h3.mod M (fun k hk hk' => hd2 k hk' hk)
    have hb1' := M.cell hb1 (hn2 t rfl)
    have hd' : ∀ k, F' k → ¬ G k := fun k hk hk' => by
      rcases hF' k hk with h5 | h5
      · exact hd2 k h5 hk'
      · exact absurd (hG k hk') (by omega)
    have hg := srd'.gi i hi
    have hp := srd'.some (by omega)
    have hg2 := h'.gi i (by omega)
    have hp2 := h'.some (by omega)
    have hmo := atI_mono s (i + 1) s.length hi
    obtain ⟨hg0, hg4⟩ := hge i hi
    obtain ⟨rS, rL, rC⟩ := hr.sl
    have hrl : gi s i ≤ (slL (env 4) : Int) := by
      rw [rL, List.length_drop]
      simp only [atI] at hmo
      omega
    have hrc : gi s i ≤ (slC (env 4) : Int) := by omega
    obtain ⟨r1, r2⟩ := pcost_k hv3 (s := s) (i := i) (by omega) hr
    rw [← rL] at r2
    generalize env 4 = rv at *
    have hk1 : okK (gi ks i) = true := by rw [List.all_eq_true] at hka; exact hka _ (gi_mem ks i (by omega))
    have hk2 : 0 ≤ gi ks i ∧ gi ks i ≤ 31 := by simp [okK, paramB] at hk1; omega
    have hwk : IntKind.u64.wrap (gi ks i) = (((gi ks i).toNat : Nat) : Int) := by rw [wU (by omega) (by omega)]; omega
    have hpb := hpl i (by omega)
    have hmul : i * (10 + 65 * l.length) ≤ 256 * (10 + 65 * 4096) := Nat.mul_le_mul (by omega) (by omega)
    have hik : i < ks.length := by omega
    have hbl : (bs ++ putTo o ks s l i).length ≤ 100000000 := by simp only [List.length_append]; omega
    have hpl2 : (partI s l i).length ≤ 4096 := by unfold partI; simp; omega
    have hpa := allW_part hla s i
    have hput : putTo o ks s l (i + 1) = putTo o ks s l i ++ partB (gi ks i) (partI s l i) := rfl
    simp [e0, e6, e32, e33, e34, sS, sL, hi, hg, hp, rS, hg0, hrl, hrc, hb1', hS, hL, hg2, hp2, hik]
    refine ⟨by omega, ?_⟩
    refine call_h (put_yes hW' (gi ks i).toNat 5 (by omega) (by omega) (by omega)) (by simp [e0, hwk]) ?_
    rintro r w4 ⟨rfl, A'⟩
    have A := WrAfter.step M hF' A'
    rw [hput]
    generalize putTo o ks s l i = pt at *
    obtain ⟨F4, hW4, M4, hF4⟩ := A
    have srd4 := srd.mod M4 (fun k hk hk' => by have := hW2.lt k hk'; omega)
    have h4 := h3.mod M4 (fun k hk hk' => hd2 k hk' hk)
    have hb14 := M4.cell hb1 (hn2 t rfl)
    have hd4 : ∀ k, F4 k → ¬ G k := fun k hk hk' => by
      rcases hF4 k hk with h5 | h5
      · exact hd2 k h5 hk'
      · exact absurd (hG k hk') (by omega)
    have hg := srd4.gi i hi
    have hp := srd4.some (by omega)
    have hg2 := h4.gi i (by omega)
    have hp2 := h4.some (by omega)
    simp [e0, e6, hb14, hS, hL, hg2, hp2, hik]
    by_cases hk : gi ks i = 31
    · refine ite_r (t := false) (by simp [hk]) (fun h => by cases h) (fun _ => ?_)
      simp
      refine callp (width_c' (r1.rd.mod M4 (fun k hk hk' => hd2 k hk' hk)) (by omega)) (by simp) ?_
      have hW31 := widL_31 hpa
      have hpart : partB (gi ks i) (partI s l i) = toB (gi ks i).toNat 5 ++ toB (widL (partI s l i)) 5 ++ rawB (widL (partI s l i)) (partI s l i) := by rw [partB, if_pos hk]; simp
      have hrb := rawB_len (widL (partI s l i))
      generalize widL (partI s l i) = W at *
      have hwW : IntKind.u64.wrap (W : Int) = W := wU (by omega) (by omega)
      simp
      refine call_h (put_yes hW4 W 5 (by omega) (by omega) (by simp [toB_length]; simp at hbl; omega)) (by simp [e0, hwW]) ?_
      rintro r w5 ⟨rfl, A5'⟩
      have A5 := WrAfter.step M4 hF4 A5'
      obtain ⟨pS, pL⟩ := r1.rd.sl
      rw [hpart]
      generalize hP : partI s l i = P at *
      simp [pS, pL, e0]
      refine for_r P.length (fun j env' w' => env' 0 = .pointer (some ⟨b, 0, none⟩) ∧ env' 6 = .pointer (some ⟨t, 0, none⟩) ∧ env' 32 = sv ∧ env' 33 = .int .i64 s.length ∧ env' 34 = .int .i64 i ∧ env' 4 = slVal 1 rv (gi s i).toNat (slL rv) ∧ env' 14 = .int .i64 W ∧ env' 73 = slVal 1 rv 0 (gi s i).toNat ∧ env' 74 = .int .i64 P.length ∧ env' 75 = .int .i64 j ∧
        WrAfter w3 F2 b (bs ++ pt ++ toB (gi ks i).toNat 5 ++ toB W 5 ++ rawB W (P.take j)) w') ?_ ?_ ?_
      · simp [e0, e6, e32, e33, e34, pL, rawB]
        simpa using A5
      · rintro j env3 w' hj ⟨f0, f6, f32, f33, f34, f4, f14, f73, f74, f75, A⟩
        simp [f74, f75]
        refine ite_r (t := true) (by simp; omega) (fun _ => ?_) (fun h => by cases h)
        simp [wp_blk]
        obtain ⟨F6, hW6, M6, hF6⟩ := A
        have hrd6 := r1.rd.mod M6 (fun k hk hk' => hd2 k hk' hk)
        have hg6 := hrd6.gi j hj
        have hp6 := hrd6.some (by omega)
        have hlr := hrb (P.take j)
        have hlr2 : W * (P.take j).length ≤ 31 * 4096 := Nat.mul_le_mul hW31 (by simp; omega)
        have hand : bitw .and .u64 (IntKind.u64.wrap (gi P j)) (IntKind.u64.wrap (shl .u64 1 (W : Int) - 1)) = (lowU (gi P j) W : Int) := by rw [(shl1_u W (by omega)).1]; exact and_w _ W (by omega)
        rw [rawB_snoc W P j hj]
        simp [f73, f75, f14, pS, pL, hj, hg6, hp6]
        refine call_h (put_yes hW6 (lowU (gi P j) W) W (by omega) (lowU_lt _ _) (by simp [toB_length]; simp at hbl; omega)) (by simp [f0, f14, hand]) ?_
        rintro r w7 ⟨rfl, A7'⟩
        have A7 := WrAfter.step M6 hF6 A7'
        have hw1 : IntKind.i64.wrap ((j : Int) + 1) = ((j + 1 : Nat) : Int) := by rw [wI (by omega) (by omega)]; omega
        simp [-Int.natCast_add, hw1, f0, f6, f32, f33, f34, f4, f14, f73, f74, f75]
        exact ⟨by omega, by simpa using A7⟩
      · rintro env3 w' ⟨f0, f6, f32, f33, f34, f4, f14, f73, f74, f75, A⟩
        simp [f74, f75]
        refine ite_r (t := false) (by simp) (fun h => by cases h) (fun _ => ?_)
        rw [List.take_length] at A
        have hw1 : IntKind.i64.wrap ((i : Int) + 1) = ((i + 1 : Nat) : Int) := by rw [wI (by omega) (by omega)]; omega
        simp [-Int.natCast_add, hw1, f0, f6, f32, f33, f34, f4]
        rw [List.length_drop] at r2
        exact ⟨by omega, r2, by simpa using A⟩
    · refine ite_r (t := true) (by simp [hk]) (fun _ => ?_) (fun h => by cases h)
      have hkp : paramB (gi ks i) = true := by simpa [okK, hk] using hk1
      have hkp' := paramB_iff.1 hkp
      simp [e0, e6, hb14, hS, hL, hg2, hp2, hik]
      obtain ⟨K, hK⟩ : ∃ K : Nat, gi ks i = K := ⟨(gi ks i).toNat, by omega⟩
      refine call_h (rput_yes hW4 (r1.rd.mod M4 (fun k hk hk' => hd2 k hk' hk)) hd4 (by omega) (by simp [toB_length]; simp at hbl; omega) K (by omega) hpa) (by simp [e0, hK]) ?_
      rintro r w5 ⟨rfl, A5'⟩
      have A5 := WrAfter.step M4 hF4 A5'
      have hw1 : IntKind.i64.wrap ((i : Int) + 1) = ((i + 1 : Nat) : Int) := by rw [wI (by omega) (by omega)]; omega
      have e : bs ++ (pt ++ partB (gi ks i) (partI s l i)) = bs ++ pt ++ toB (gi ks i).toNat 5 ++ riceBs K (partI s l i) := by rw [partB, if_neg hk, hK]; simp
      rw [← e] at A5
      generalize partB (gi ks i) (partI s l i) = pb at *
      simp [-Int.natCast_add, hw1, e0, e6, e32, e33, e34]
      rw [List.length_drop] at r2
      exact ⟨by omega, r2, by simpa using A5⟩
  · rintro env w' ⟨e0, e6, e32, e33, e34, hr, A⟩
    simp [e33, e34]
    refine ite_r (t := false) (by simp) (fun h => by cases h) (fun _ => ?_)
    simp
    have MA : Mod F w w3 := ((H.mod.mono (fun _ _ h => h.elim)).tr MW2).tr (HR.mod.mono (fun _ _ h => h.elim))
    exact WrAfter.step MA (fun k hk => (hF2 k hk).imp id (fun h => by omega)) A

end Go.Proofs.Ytajkofndbeohpaa.VG

/-! ## Parts: a row as bits, by the document. -/
namespace Go.Proofs.Ytajkofndbeohpaa.VG
open Go
set_option linter.unusedSimpArgs false
set_option linter.unusedVariables false

set_option maxHeartbeats 1000000 in
theorem psigned_c {G F : Nat → Prop} {w : World} {b : Nat} {bs : List Bool} {v : Value} {l : List Int} (hW0 : Xr w F b bs) (hr : Rd G w v l.length (intsV l)) (hd : ∀ k, F k → ¬ G k) (hG : ∀ k, G k → k < w.heap.size) (hl : l.length ≤ 4096) (hlen : bs.length ≤ 1000000000) (W : Nat) (hW31 : W ≤ 31) :
    Calls Try.prog 51 [.pointer (some ⟨b, 0, none⟩), v, .int .i64 W].toArray w (Ret fun r w' => r = .tuple #[] ∧ XrAfter w F b (bs ++ rawB W l) w') := by
  refine F_sound c51 (by simp [fc51]) ?_
  obtain ⟨hS, hL⟩ := hr.sl
  have hwW : IntKind.u64.wrap (W : Int) = W := wU (by omega) (by omega)
  simp [fc51, s51]
  refine for_r l.length (fun j env' w' => env' 0 = .pointer (some ⟨b, 0, none⟩) ∧ env' 1 = v ∧ env' 2 = .int .i64 W ∧ env' 6 = .int .i64 j ∧ XrAfter w F b (bs ++ rawB W (l.take j)) w') ?_ ?_ ?_
  · simp [rawB]
    exact XrAfter.refl hW0
  · rintro j env w' hj ⟨f0, f1, f2, f6, A⟩
    simp [f1, f6, hS, hL]
    refine ite_r (t := true) (by simp; omega) (fun _ => ?_) (fun h => by cases h)
    simp [wp_blk]
    obtain ⟨F6, hW6, M6, hF6⟩ := A
    have hrd6 := hr.mod M6 (fun k hk hk' => hd k hk' hk)
    have hg6 := hrd6.gi j hj
    have hp6 := hrd6.some (by omega)
    have hlr := rawB_len W (l.take j)
    have hlr2 : W * (l.take j).length ≤ 31 * 4096 := Nat.mul_le_mul hW31 (by simp; omega)
    have hand : bitw .and .u64 (IntKind.u64.wrap (gi l j)) (IntKind.u64.wrap (shl .u64 1 (W : Int) - 1)) = (lowU (gi l j) W : Int) := by rw [(shl1_u W (by omega)).1]; exact and_w _ W (by omega)
    rw [rawB_snoc W l j hj]
    simp [f1, f2, f6, hS, hL, hj, hg6, hp6, hwW]
    refine call_h (xput_yes hW6 (lowU (gi l j) W) W (by omega) (lowU_lt _ _) (by simp; omega)) (by simp [f0, f2, hwW, hand]) ?_
    rintro r w7 ⟨rfl, A7'⟩
    have A7 := XrAfter.step M6 hF6 A7'
    have hw1 : IntKind.i64.wrap ((j : Int) + 1) = ((j + 1 : Nat) : Int) := by rw [wI (by omega) (by omega)]; omega
    simp [-Int.natCast_add, hw1, f0, f1, f2, f6]
    exact ⟨by omega, by simpa using A7⟩
  · rintro env w' ⟨f0, f1, f2, f6, A⟩
    simp [f1, f6, hS, hL]
    refine ite_r (t := false) (by simp) (fun h => by cases h) (fun _ => ?_)
    rw [List.take_length] at A
    simp
    exact A

set_option maxHeartbeats 4000000 in
theorem xpput_yes {F G : Nat → Prop} {w : World} {b : Nat} {bs : List Bool} {kv v : Value} {ks l : List Int} (o n wm : Int) (hW0 : Xr w F b bs) (h : Rd G w kv ks.length (intsV ks)) (hl : ks.length ≤ 1000000) (hv : Rc G w v l.length (intsV l)) (hvl : l.length ≤ 1000000)
    (hd : ∀ k, F k → ¬ G k) (hG : ∀ k, G k → k < w.heap.size) (hbs : bs.length ≤ 1000000) (hok : mayB o ks n wm = true ∧ rightB n wm l = true) :
    Calls Try.prog 22 [.pointer (some ⟨b, 0, none⟩), planV o kv, .int .i64 n, .int .i64 wm, v].toArray w (Ret fun r w' => r = .int .i64 0 ∧ XrAfter w F b (bs ++ putB o ks n wm l) w') := by
  refine F_sound c22 (by simp [fc22]) ?_
  obtain ⟨hS, hL⟩ := h.sl
  obtain ⟨vS, vL, vC⟩ := hv.sl
  have h1c : kv.cells = #[kv] := by obtain ⟨cap, hv⟩ := h.is; rw [hv]; rfl
  simp [fc22, s22]
  refine box_h (planV o kv) (Hp.nil w) (by simp) ?_
  intro t w1 H M1
  refine ⟨.inl rfl, ?_⟩
  have hpc : (planV o kv).cells = #[.int .i64 o, kv] := by simp [planV, Value.cells, h1c, putAt]
  have hcl := cells_blk (H.blk 0 rfl) 2 (by rw [hpc]; rfl)
  have hb0 := H.blk 0 rfl 0
  have hb1 := H.blk 0 rfl 1
  rw [hpc] at hb0 hb1 hcl
  simp at hb0 hb1
  have hj : ∀ (j : Nat), j < 2 → (w1.cell? ⟨t, j, none⟩).isSome = true := by
    intro j hj
    obtain rfl | rfl : j = 0 ∨ j = 1 := by omega
    · rw [hb0]; rfl
    · rw [hb1]; rfl
  simp [hcl, hb0, hb1]
  refine ⟨hj, ?_⟩
  refine callm (cost2_p o n wm (h.at H.mod) hl (hv.at H.mod) hvl) (by simp (disch := omega) [wI, wU, tmod_nn, tdiv_nn, env0_0, env0_1, env0_2, env0_3, env0_4, env0_5, -env0_apply, planV]) ?_
  intro w' M'
  replace H := H.same M'
  have hz := @costP_zero o ks n wm l hvl
  have hnz : ¬ costP o ks n wm l = 0 := fun e => hz.1 e hok
  simp
  refine ite_r (t := false) (by simp [hnz]) (fun h => by cases h) (fun _ => ?_)
  obtain ⟨hmay, hright⟩ := hok
  have hB : szB o n wm = true := by simp [mayB] at hmay; exact hmay.1.1
  have hkl : ks.length = (szS o n wm).length := by simp [mayB] at hmay; exact hmay.1.2
  have hka : ks.all okK = true := by simp only [mayB, Bool.and_eq_true] at hmay; exact hmay.2
  have hln : (l.length : Int) = n - wm := by simp [rightB] at hright; exact hright.1.2
  have hla : allW l = true := by simp only [rightB, Bool.and_eq_true] at hright; exact hright.2
  obtain ⟨_, ⟨o0, o8⟩, _, _⟩ := szB_iff.1 hB
  obtain ⟨hge, hat, hpos⟩ := sz_fact hB
  have hr' := rowB_iff.1 (szB_iff.1 hB).1
  have hb0 := H.blk 0 rfl 0
  have hb1 := H.blk 0 rfl 1
  rw [hpc] at hb0 hb1
  simp at hb0 hb1
  have hwo : IntKind.u64.wrap o = ((o.toNat : Nat) : Int) := by rw [wU (by omega) (by omega)]; omega
  simp [hb0]
  -- the order
  have hW := hW0.mod H.mod (fun _ _ h => h)
  refine call_h (xput_yes hW o.toNat 4 (by omega) (by omega) (by omega)) (by simp [hb0, hwo]) ?_
  rintro r w2 ⟨rfl, A⟩
  obtain ⟨F2, hW2, MW2, hF2⟩ := A
  have hnew := H.blkNew 0 rfl
  have hw0 := H.mod.size
  have hF2lt := hW2.lt
  have hn2 : ∀ k, k = t → ¬ F2 k := fun k e hk => by
    subst e
    rcases hF2 k hk with h | h
    · have := hW0.lt k h; omega
    · omega
  have hnF : ¬ F t := fun hk => by have := hW0.lt t hk; omega
  have hd2 : ∀ k, F2 k → ¬ G k := fun k hk hk' => by
    rcases hF2 k hk with h | h
    · exact hd k h hk'
    · have := hG k hk'; omega
  replace hb0 := MW2.cell hb0 hnF
  replace hb1 := MW2.cell hb1 hnF
  have h3 := (h.at H.mod).mod MW2 (fun k hk hk' => hd k hk' hk)
  have hv3 := (hv.at H.mod).mod MW2 (fun k hk hk' => hd k hk' hk)
  simp [hb0]
  refine call_h (sizes2_c o n wm) (by simp [hb0]) ?_
  intro sv w3 HR
  have srd := HR.rd 0 rfl
  obtain ⟨sS, sL⟩ := srd.sl
  replace hb1 := HR.mod.cell hb1 (fun h => h)
  replace h3 := h3.at HR.mod
  replace hv3 := hv3.at HR.mod
  have hW3 := hW2.mod HR.mod (fun _ _ h => h)
  have hw3 := HR.mod.size
  have hle := szS_le o n wm
  have hpl : ∀ i, i ≤ ks.length → (putTo o ks (szS o n wm) l i).length ≤ 4 + i * (10 + 65 * l.length) := putTo_le hka o (szS o n wm) l
  have hfin : putB o ks n wm l = putTo o ks (szS o n wm) l (szS o n wm).length := rfl
  rw [hfin]
  generalize szS o n wm = s at *
  simp
  have hw2 := MW2.size
  refine for_r s.length (fun i env' w' => env' 0 = .pointer (some ⟨b, 0, none⟩) ∧ env' 6 = .pointer (some ⟨t, 0, none⟩) ∧ env' 4 = v ∧ env' 11 = sv ∧ env' 12 = .int .i64 (atI s i) ∧ env' 13 = .int .i64 i ∧ XrAfter w3 F2 b (bs ++ putTo o ks s l i) w') ?_ ?_ ?_
  · simp [atI, putTo]
    exact XrAfter.refl hW3
  · rintro i env w' hi ⟨e0, e6, e4, e11, e12, e13, A⟩
    simp [e11, e13, sS, sL]
    refine ite_r (t := true) (by simp; omega) (fun _ => ?_) (fun h => by cases h)
    simp [wp_blk]
    obtain ⟨F', hW', M, hF'⟩ := A
    have srd' := srd.mod M (fun k hk hk' => by have := hW2.lt k hk'; omega)
    have h' := h3.mod M (fun k hk hk' => hd2 k hk' hk)
    have hb1' := M.cell hb1 (hn2 t rfl)
    have hd' : ∀ k, F' k → ¬ G k := fun k hk hk' => by
      rcases hF' k hk with h5 | h5
      · exact hd2 k h5 hk'
      · exact absurd (hG k hk') (by omega)
    have hg := srd'.gi i hi
    have hp := srd'.some (by omega)
    have hg2 := h'.gi i (by omega)
    have hp2 := h'.some (by omega)
    have hmo := atI_mono s (i + 1) s.length hi
    obtain ⟨hg0, hg4⟩ := hge i hi
    have ha1 : (atI s (i + 1) : Int) = atI s i + gi s i := by simp only [atI]; omega
    have r1 := hv3.cuti (atI s i) (atI s (i + 1)) (by omega) (by omega)
    have hpi : (l.take (atI s (i + 1))).drop (atI s i) = partI s l i := by
      rw [List.drop_take, partI]
      simp only [atI]
      rw [Nat.add_sub_cancel_left]
    rw [hpi] at r1
    have hwa : IntKind.i64.wrap ((atI s i : Int) + gi s i) = (atI s (i + 1) : Int) := by rw [wI (by omega) (by omega)]; omega
    have hk1 : okK (gi ks i) = true := by rw [List.all_eq_true] at hka; exact hka _ (gi_mem ks i (by omega))
    have hk2 : 0 ≤ gi ks i ∧ gi ks i ≤ 31 := by simp [okK, paramB] at hk1; omega
    have hwk : IntKind.u64.wrap (gi ks i) = (((gi ks i).toNat : Nat) : Int) := by rw [wU (by omega) (by omega)]; omega
    have hpb := hpl i (by omega)
    have hmul : i * (10 + 65 * l.length) ≤ 256 * (10 + 65 * 4096) := Nat.mul_le_mul (by omega) (by omega)
    have hik : i < ks.length := by omega
    have hbl : (bs ++ putTo o ks s l i).length ≤ 100000000 := by simp only [List.length_append]; omega
    have hpl2 : (partI s l i).length ≤ 4096 := by unfold partI; simp; omega
    have hpa := allW_part hla s i
    have hput : putTo o ks s l (i + 1) = putTo o ks s l i ++ partB (gi ks i) (partI s l i) := rfl
    have hGW : ∀ {w' : World} {b : Nat} {cs : List Bool}, XrAfter w3 F2 b cs w' → ∀ k, G k → k < w'.heap.size := fun A k hk => by
      obtain ⟨_, _, m, _⟩ := A
      have := m.size; have := hG k hk; have := H.mod.size; omega
    simp [e0, e4, e6, e11, e12, e13, sS, sL, hi, hg, hp, hb1', hS, hL, hg2, hp2, vS, vL, hik, hwa]
    refine ⟨⟨by omega, by omega⟩, ?_⟩
    refine call_h (xput_yes hW' (gi ks i).toNat 5 (by omega) (by omega) (by omega)) (by simp [e0, hwk]) ?_
    rintro r w4 ⟨rfl, A'⟩
    have A := XrAfter.step M hF' A'
    rw [hput]
    generalize putTo o ks s l i = pt at *
    have hGW4 := hGW A
    obtain ⟨F4, hW4, M4, hF4⟩ := A
    have srd4 := srd.mod M4 (fun k hk hk' => by have := hW2.lt k hk'; omega)
    have h4 := h3.mod M4 (fun k hk hk' => hd2 k hk' hk)
    have hb14 := M4.cell hb1 (hn2 t rfl)
    have hd4 : ∀ k, F4 k → ¬ G k := fun k hk hk' => by
      rcases hF4 k hk with h5 | h5
      · exact hd2 k h5 hk'
      · exact absurd (hG k hk') (by omega)
    have hg := srd4.gi i hi
    have hp := srd4.some (by omega)
    have hg2 := h4.gi i (by omega)
    have hp2 := h4.some (by omega)
    have hw1 : IntKind.i64.wrap ((i : Int) + 1) = ((i + 1 : Nat) : Int) := by rw [wI (by omega) (by omega)]; omega
    simp [e0, e6, e13, hb14, hS, hL, hg2, hp2, hik]

    by_cases hk : gi ks i = 31
    · refine ite_r (t := true) (by simp [hk]) (fun _ => ?_) (fun h => by cases h)
      refine callp (width2_c (r1.rd.mod M4 (fun k hk hk' => hd2 k hk' hk)) (by omega)) (by simp) ?_
      have hW31 := widL_31 hpa
      have hpart : partB (gi ks i) (partI s l i) = toB (gi ks i).toNat 5 ++ toB (widL (partI s l i)) 5 ++ rawB (widL (partI s l i)) (partI s l i) := by rw [partB, if_pos hk]; simp
      generalize widL (partI s l i) = W at *
      have hwW : IntKind.u64.wrap (W : Int) = W := wU (by omega) (by omega)
      simp
      refine call_h (xput_yes hW4 W 5 (by omega) (by omega) (by simp [toB_length]; simp at hbl; omega)) (by simp [e0, hwW]) ?_
      rintro r w5 ⟨rfl, A5'⟩
      have A5 := XrAfter.step M4 hF4 A5'
      have hGW5 := hGW A5
      obtain ⟨F5, hW5, M5, hF5⟩ := A5
      have hd5 : ∀ k, F5 k → ¬ G k := fun k hk hk' => by
        rcases hF5 k hk with h5 | h5
        · exact hd2 k h5 hk'
        · exact absurd (hG k hk') (by omega)
      rw [hpart]
      refine call_h (psigned_c hW5 (r1.rd.mod M5 (fun k hk hk' => hd2 k hk' hk)) hd5 hGW5 hpl2 (by simp [toB_length]; simp at hbl; omega) W hW31) (by simp [e0]) ?_
      rintro r w6 ⟨rfl, A6'⟩
      have A := XrAfter.step M5 hF5 A6'
      have A0 := A
      obtain ⟨F6, hW6, M6, hF6⟩ := A
      have srd6 := srd.mod M6 (fun k hk hk' => by have := hW2.lt k hk'; omega)
      have h6 := h3.mod M6 (fun k hk hk' => hd2 k hk' hk)
      have hb16 := M6.cell hb1 (hn2 t rfl)
      have hd6 : ∀ k, F6 k → ¬ G k := fun k hk hk' => by
        rcases hF6 k hk with h5 | h5
        · exact hd2 k h5 hk'
        · exact absurd (hG k hk') (by omega)
      have hg := srd6.gi i hi
      have hp := srd6.some (by omega)
      have hg2 := h6.gi i (by omega)
      have hp2 := h6.some (by omega)
      simp [-Int.natCast_add, e0, e4, e6, e11, e12, e13, sS, sL, hi, hg, hp, hwa, hw1]
      exact ⟨by omega, by simpa using A0⟩
    · refine ite_r (t := false) (by simp [hk]) (fun h => by cases h) (fun _ => ?_)
      have hkp : paramB (gi ks i) = true := by simpa [okK, hk] using hk1
      have hkp' := paramB_iff.1 hkp
      simp [e0, e6, e13, hb14, hS, hL, hg2, hp2, hik]
      obtain ⟨K, hK⟩ : ∃ K : Nat, gi ks i = K := ⟨(gi ks i).toNat, by omega⟩
      refine call_h (xrput_yes hW4 (r1.rd.mod M4 (fun k hk hk' => hd2 k hk' hk)) hd4 (by omega) (by simp [toB_length]; simp at hbl; omega) K (by omega) hpa) (by simp [e0, hK]) ?_
      rintro r w5 ⟨rfl, A5'⟩
      have A := XrAfter.step M4 hF4 A5'
      have e : bs ++ (pt ++ partB (gi ks i) (partI s l i)) = bs ++ pt ++ toB (gi ks i).toNat 5 ++ riceBs K (partI s l i) := by rw [partB, if_neg hk, hK]; simp
      rw [← e] at A
      generalize partB (gi ks i) (partI s l i) = pb at *
      have A0 := A
      obtain ⟨F6, hW6, M6, hF6⟩ := A
      have srd6 := srd.mod M6 (fun k hk hk' => by have := hW2.lt k hk'; omega)
      have h6 := h3.mod M6 (fun k hk hk' => hd2 k hk' hk)
      have hb16 := M6.cell hb1 (hn2 t rfl)
      have hd6 : ∀ k, F6 k → ¬ G k := fun k hk hk' => by
        rcases hF6 k hk with h5 | h5
        · exact hd2 k h5 hk'
        · exact absurd (hG k hk') (by omega)
      have hg := srd6.gi i hi
      have hp := srd6.some (by omega)
      have hg2 := h6.gi i (by omega)
      have hp2 := h6.some (by omega)
      simp [-Int.natCast_add, e0, e4, e6, e11, e12, e13, sS, sL, hi, hg, hp, hwa, hw1]
      exact ⟨by omega, by simpa using A0⟩
  · rintro env w' ⟨e0, e6, e4, e11, e12, e13, A⟩
    simp [e11, e13, sS, sL]
    refine ite_r (t := false) (by simp) (fun h => by cases h) (fun _ => ?_)
    simp
    have MA : Mod F w w3 := ((H.mod.mono (fun _ _ h => h.elim)).tr MW2).tr (HR.mod.mono (fun _ _ h => h.elim))
    exact XrAfter.step MA (fun k hk => (hF2 k hk).imp id (fun h => by omega)) A

end Go.Proofs.Ytajkofndbeohpaa.VG
