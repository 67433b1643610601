/-
  Parts: rows cut, an own row's element set, widths.
-/
import Derived.Test.YtajkofndbeohpaaRe
import Derived.Test.YtajkofndbeohpaaBw
import Derived.Test.YtajkofndbeohpaaBl
import Derived.Test.YtajkofndbeohpaaSi
namespace Go.Proofs.Ytajkofndbeohpaa.VG
open Go
set_option linter.unusedSimpArgs false
set_option linter.unusedVariables false

/-- A row that reads, with its room behind. -/
structure Rc (F : Nat → Prop) (w : World) (v : Value) (n : Nat) (xs : List Value) : Prop where
  rd : Rd F w v n xs
  cap : n ≤ slC v
  len : xs.length = n
theorem Rc.at {F : Nat → Prop} {w w' : World} {v : Value} {n : Nat} {xs : List Value} (h : Rc F w v n xs) (m : Mod none' w w') : Rc F w' v n xs := ⟨h.rd.at m, h.cap, h.len⟩
theorem Rc.sl {F : Nat → Prop} {w : World} {v : Value} {n : Nat} {xs : List Value} (h : Rc F w v n xs) : isS v ∧ slL v = n ∧ n ≤ slC v := ⟨h.rd.sl.1, h.rd.sl.2, h.cap⟩

theorem slB_some (a : Addr) (n cap : Nat) : slB (.slice (some a) n cap) = a := rfl
theorem Rc.cut {F : Nat → Prop} {w : World} {v : Value} {n : Nat} {xs : List Value} (h : Rc F w v n xs) (lo hi : Nat) (h1 : lo ≤ hi) (h2 : hi ≤ n) : Rc F w (slVal 1 v lo hi) (hi - lo) ((xs.take hi).drop lo) := by
  obtain ⟨cap, hv⟩ := h.rd.is
  have hcap := h.cap
  have hlen := h.len
  have hptr := h.rd.ptr
  have hcell := h.rd.cell
  clear h
  generalize slA v = oa at *
  subst hv
  replace hcap : n ≤ cap := hcap
  cases oa with
  | none =>
    have h0 : xs.length = 0 := by
      rcases Nat.eq_zero_or_pos xs.length with h | h
      · exact h
      · exact absurd (hptr h).1 (by simp)
    have e : slVal 1 (.slice none n cap) lo hi = .slice none (hi - lo) (cap - lo) := by by_cases hc : cap = lo <;> simp [slVal, slA, slC, hc]
    rw [e]
    obtain rfl : xs = [] := List.eq_nil_of_length_eq_zero h0
    refine ⟨⟨⟨_, rfl⟩, fun hp => by simp at hp, fun j u hj => by simp at hj⟩, by show hi - lo ≤ cap - lo; omega, by simp; omega⟩
  | some a =>
    have e : slVal 1 (.slice (some a) n cap) lo hi = .slice (some (if cap = lo then a else a.add lo)) (hi - lo) (cap - lo) := by simp only [slVal, slA, slC, Nat.mul_one, Option.map_some]; split <;> rfl
    rw [e]
    refine ⟨⟨⟨_, rfl⟩, fun hp => ⟨rfl, ?_⟩, fun j u hj => ?_⟩, by show hi - lo ≤ cap - lo; omega, by simp; omega⟩
    · simp only [List.length_drop, List.length_take] at hp
      obtain ⟨_, p2⟩ := hptr (by omega)
      rw [slB_some] at p2 ⊢
      split
      · exact p2
      · simpa [add_block] using p2
    · have hj' := (List.getElem?_eq_some_iff.1 hj).1
      simp only [List.length_drop, List.length_take] at hj'
      rw [List.getElem?_drop, List.getElem?_take_of_lt (by omega)] at hj
      have hc := hcell (lo + j) u hj
      rw [slB_some] at hc ⊢
      rw [if_neg (by omega), add_add]
      exact hc

theorem intsV_cut (l : List Int) (lo hi : Nat) : ((intsV l).take hi).drop lo = intsV ((l.take hi).drop lo) := by simp [intsV]
theorem Rc.cuti {F : Nat → Prop} {w : World} {v : Value} {l : List Int} (h : Rc F w v l.length (intsV l)) (lo hi : Nat) (h1 : lo ≤ hi) (h2 : hi ≤ l.length) : Rc F w (slVal 1 v lo hi) ((l.take hi).drop lo).length (intsV ((l.take hi).drop lo)) := by
  have := h.cut lo hi h1 h2
  rw [intsV_cut] at this
  have e : ((l.take hi).drop lo).length = hi - lo := by simp; omega
  rw [e]; exact this
theorem Rc.sl_ok {F : Nat → Prop} {w : World} {v : Value} {n : Nat} {xs : List Value} (h : Rc F w v n xs) (lo hi : Nat) : isS (slVal 1 v lo hi) ∧ slL (slVal 1 v lo hi) = hi - lo := ⟨trivial, rfl⟩

theorem Hp.rc {W w : World} {l : List It} (h : Hp W w l) (j : Nat) {e : TypeId} {n : Nat} {v : Value} {xs : List Value} (hj : l[j]? = some (.own e 1 v n xs)) : Rc (fun k => W.heap.size ≤ k) w v n xs := by
  refine ⟨h.rd j hj, ?_, ?_⟩
  · rcases (h.own j hj).2 with ⟨rfl, rfl⟩ | ⟨g, cap, cur, rfl, _, _, hn, _⟩
    · exact Nat.le_refl _
    · exact hn
  · have := (h.own j hj).1; omega

/-- An element of an own row of one-cell elements is set. -/
theorem set_h {P : Program} {Q : Exit → Env → World → Prop} {env : Env} {W w : World} {l : List It} {k : S} {a ex : E} {pr : List PrE} {e : TypeId} {v u : Value} {n i : Nat} {xs : List Value} (j : Nat) (h : Hp W w l) (hj : l[j]? = some (.own e 1 v n xs)) (hi : i < n)
    (ha : a.ev env w = .pointer (some ((slB v).add i))) (he : ex.ev env w = u) (h1 : one1 u = true)
    (hk : ∀ w', Hp W w' (l.set j (.own e 1 v n (xs.set i u))) → (pr = [] ∨ promsOk pr env w w') ∧ k.wp P Q env w') : (S.st 1 a ex pr k).wp P Q env w := by
  obtain ⟨F, ⟨hown, rfl⟩, hF, hup⟩ := h.upd j hj
  obtain ⟨hlen, hcase⟩ := hown
  rcases hcase with ⟨_, h0⟩ | ⟨g, cap, cur, rfl, hg0, hh, hn, hm, hs, ht⟩
  · omega
  have hB : slB (.slice (some ⟨g, 0, none⟩) n cap) = ⟨g, 0, none⟩ := rfl
  rw [hB, add_mk, Nat.zero_add] at ha
  refine st_r ha he hh (by omega) h1 ?_
  intro w' h2 hm' _
  obtain ⟨q1, q2⟩ := hk w' (hup _ w' (fun k => (Value.slice (some ⟨g, 0, none⟩) n cap).ownBlock = some k) (hm'.mono fun k _ hk => by subst hk; rfl) ⟨⟨by simp [hlen], .inr ⟨g, cap, _, rfl, hg0, h2, hn, hm, by simpa using hs, by rw [← ht, Array.toList_setIfInBounds, List.take_set]⟩⟩, rfl⟩ (fun k hk => .inl hk))
  refine ⟨?_, q2⟩
  rcases q1 with rfl | q1
  · trivial
  · exact q1

theorem Hp.blkNew {W w : World} {l : List It} (h : Hp W w l) (j : Nat) {b : Nat} {cs : Array Value} (hj : l[j]? = some (.blk b cs)) : W.heap.size ≤ b ∧ b < w.heap.size := by
  obtain ⟨F, ⟨⟨el, h1⟩, rfl⟩, h2, _⟩ := h.upd j hj
  exact ⟨h2 b rfl, heap_lt h1⟩
theorem Rc.mod {F S : Nat → Prop} {w w' : World} {v : Value} {n : Nat} {xs : List Value} (h : Rc F w v n xs) (m : Mod S w w') (hd : ∀ k, F k → ¬ S k) : Rc F w' v n xs := ⟨h.rd.mod m hd, h.cap, h.len⟩

/-- Widths. -/
def lowI (n : Nat) : Int := if 1 ≤ n ∧ n ≤ 31 then -((2 ^ (n - 1) : Nat) : Int) else 0
def highI (n : Nat) : Int := if 1 ≤ n ∧ n ≤ 31 then ((2 ^ (n - 1) : Nat) : Int) - 1 else 0
def fitB (x : Int) (n : Nat) : Bool := decide (1 ≤ n) && decide (n ≤ 31) && decide (lowI n ≤ x) && decide (x ≤ highI n)
def widF (x : Int) : Nat → Nat → Nat
  | 0, w => w
  | f + 1, w => if x ≠ 0 ∧ fitB x w = false then widF x f (w + 1) else w
def widX (w : Nat) (x : Int) : Nat := widF x (32 - w) w
def widL (l : List Int) : Nat := l.foldl widX 0
theorem widF_le (x : Int) : ∀ f w, widF x f w ≤ w + f ∧ w ≤ widF x f w
  | 0, w => by simp [widF]
  | f + 1, w => by
    have := widF_le x f (w + 1)
    simp only [widF]
    split <;> omega
theorem widX_le {w : Nat} (h : w ≤ 32) (x : Int) : widX w x ≤ 32 ∧ w ≤ widX w x := by
  have := widF_le x (32 - w) w
  unfold widX
  omega
theorem foldX_le : ∀ (l : List Int) (w : Nat), w ≤ 32 → l.foldl widX w ≤ 32 ∧ w ≤ l.foldl widX w
  | [], w, h => ⟨h, Nat.le_refl _⟩
  | x :: r, w, h => by
    have h1 := widX_le h x
    have h2 := foldX_le r (widX w x) h1.1
    simp only [List.foldl_cons]
    omega
theorem widL_le (l : List Int) : widL l ≤ 32 := (foldX_le l 0 (by omega)).1
theorem widL_snoc (l : List Int) (i : Nat) (h : i < l.length) : widL (l.take (i + 1)) = widX (widL (l.take i)) (gi l i) := by
  rw [gi_take_snoc l i h]; simp [widL]

theorem shl_i {x : Int} {y : Nat} (h : y ≤ 64) (h1 : -9223372036854775808 ≤ x * ((2 ^ y : Nat) : Int)) (h2 : x * ((2 ^ y : Nat) : Int) ≤ 9223372036854775807) : shl .i64 x y = x * ((2 ^ y : Nat) : Int) := by
  rw [shl_int _ _ _ (by simp only [IntKind.bits]; omega)]
  exact wI h1 h2

theorem shl_pm (m : Nat) (hm : m ≤ 30) : shl .i64 (-1) (m : Int) = -((2 ^ m : Nat) : Int) ∧ shl .i64 1 (m : Int) = ((2 ^ m : Nat) : Int) ∧ 2 ^ m ≤ 1073741824 ∧ 0 < 2 ^ m := by
  have h2 : 2 ^ m ≤ 2 ^ 30 := Nat.pow_le_pow_right (by omega) (by omega)
  have h3 := Nat.two_pow_pos m
  have a := @shl_i (-1) m (by omega)
  have b := @shl_i 1 m (by omega)
  generalize 2 ^ m = P at *
  refine ⟨?_, ?_, by omega, h3⟩
  · rw [a (by omega) (by omega)]; omega
  · rw [b (by omega) (by omega)]; omega

theorem low2_c {w : World} (n : Nat) (hn : n ≤ 32) : Calls Try.prog 80 [.int .i64 n].toArray w (Ret fun r w' => r = .int .i64 (lowI n) ∧ w' = w) := by
  refine F_sound c80 (by simp [fc80]) ?_
  simp [fc80, s80]
  unfold lowI
  by_cases h : 1 ≤ n ∧ n ≤ 31
  · refine ite_r (t := false) (by simp; omega) (fun h => by cases h) (fun _ => ?_)
    obtain ⟨m, rfl⟩ : ∃ m, n = m + 1 := ⟨n - 1, by omega⟩
    have hw : IntKind.i64.wrap (((m + 1 : Nat) : Int) - 1) = (m : Int) := by rw [show ((m + 1 : Nat) : Int) - 1 = m by omega]; exact wI (by omega) (by omega)
    have hw2 : IntKind.u64.wrap (m : Int) = m := wU (by omega) (by omega)
    obtain ⟨s1, s2, s3, s4⟩ := shl_pm m (by omega)
    simp [-Int.natCast_add, -Int.natCast_pow, hw, hw2, s1, h]
  · refine ite_r (t := true) (by simp; omega) (fun _ => ?_) (fun h => by cases h)
    simp [h]
theorem high2_c {w : World} (n : Nat) (hn : n ≤ 32) : Calls Try.prog 81 [.int .i64 n].toArray w (Ret fun r w' => r = .int .i64 (highI n) ∧ w' = w) := by
  refine F_sound c81 (by simp [fc81]) ?_
  simp [fc81, s81]
  unfold highI
  by_cases h : 1 ≤ n ∧ n ≤ 31
  · refine ite_r (t := false) (by simp; omega) (fun h => by cases h) (fun _ => ?_)
    obtain ⟨m, rfl⟩ : ∃ m, n = m + 1 := ⟨n - 1, by omega⟩
    have hw : IntKind.i64.wrap (((m + 1 : Nat) : Int) - 1) = (m : Int) := by rw [show ((m + 1 : Nat) : Int) - 1 = m by omega]; exact wI (by omega) (by omega)
    have hw2 : IntKind.u64.wrap (m : Int) = m := wU (by omega) (by omega)
    obtain ⟨s1, s2, s3, s4⟩ := shl_pm m (by omega)
    have hw3 : IntKind.i64.wrap (((2 ^ m : Nat) : Int) - 1) = ((2 ^ m : Nat) : Int) - 1 := by generalize 2 ^ m = P at *; exact wI (by omega) (by omega)
    simp [-Int.natCast_add, -Int.natCast_pow, hw, hw2, s2, hw3, h]
  · refine ite_r (t := true) (by simp; omega) (fun _ => ?_) (fun h => by cases h)
    simp [h]
theorem low_c' {w : World} (n : Nat) (hn : n ≤ 32) : Calls Try.prog 83 [.int .i64 n].toArray w (Ret fun r w' => r = .int .i64 (lowI n) ∧ w' = w) := by
  refine F_sound c83 (by simp [fc83]) ?_
  simp [fc83, s83]
  unfold lowI
  by_cases h : 1 ≤ n ∧ n ≤ 31
  · refine ite_r (t := false) (by simp; omega) (fun h => by cases h) (fun _ => ?_)
    obtain ⟨m, rfl⟩ : ∃ m, n = m + 1 := ⟨n - 1, by omega⟩
    have hw : IntKind.i64.wrap (((m + 1 : Nat) : Int) - 1) = (m : Int) := by rw [show ((m + 1 : Nat) : Int) - 1 = m by omega]; exact wI (by omega) (by omega)
    obtain ⟨s1, s2, s3, s4⟩ := shl_pm m (by omega)
    simp [-Int.natCast_add, -Int.natCast_pow, hw, s1, h]
  · refine ite_r (t := true) (by simp; omega) (fun _ => ?_) (fun h => by cases h)
    simp [h]
theorem high_c' {w : World} (n : Nat) (hn : n ≤ 32) : Calls Try.prog 84 [.int .i64 n].toArray w (Ret fun r w' => r = .int .i64 (highI n) ∧ w' = w) := by
  refine F_sound c84 (by simp [fc84]) ?_
  simp [fc84, s84]
  unfold highI
  by_cases h : 1 ≤ n ∧ n ≤ 31
  · refine ite_r (t := false) (by simp; omega) (fun h => by cases h) (fun _ => ?_)
    obtain ⟨m, rfl⟩ : ∃ m, n = m + 1 := ⟨n - 1, by omega⟩
    have hw : IntKind.i64.wrap (((m + 1 : Nat) : Int) - 1) = (m : Int) := by rw [show ((m + 1 : Nat) : Int) - 1 = m by omega]; exact wI (by omega) (by omega)
    obtain ⟨s1, s2, s3, s4⟩ := shl_pm m (by omega)
    have hw3 : IntKind.i64.wrap (((2 ^ m : Nat) : Int) - 1) = ((2 ^ m : Nat) : Int) - 1 := by generalize 2 ^ m = P at *; exact wI (by omega) (by omega)
    simp [-Int.natCast_add, -Int.natCast_pow, hw, s2, hw3, h]
  · refine ite_r (t := true) (by simp; omega) (fun _ => ?_) (fun h => by cases h)
    simp [h]

theorem fits2_c {w : World} (x : Int) (n : Nat) (hn : n ≤ 32) : Calls Try.prog 65 [.int .i64 x, .int .i64 n].toArray w (Ret fun r w' => r = .bool (fitB x n) ∧ w' = w) := by
  refine F_sound c65 (by simp [fc65]) ?_
  simp [fc65, s65]
  unfold fitB
  by_cases h : 1 ≤ n ∧ n ≤ 31
  · refine ifg_r (t := true) (by simp; omega) (fun _ => ?_) (fun h => (h rfl).elim)
    refine callp (low2_c n hn) (by simp) ?_
    simp [h]
    by_cases h1 : lowI n ≤ x
    · refine ifg_r (t := true) (by simp; omega) (fun _ => ?_) (fun h => (h rfl).elim)
      refine callp (high2_c n hn) (by simp) ?_
      simp [h, h1]
      omega
    · refine ifg_r (t := false) (by simp; omega) (fun h => by cases h) (fun _ => ?_)
      simp [h, h1]
  · refine ifg_r (t := false) (by simp; omega) (fun h => by cases h) (fun _ => ?_)
    simp
    refine ⟨fun _ _ => by omega, ?_⟩
    refine ifg_r (t := false) (by simp; omega) (fun h => by cases h) (fun _ => ?_)
    simp
    refine ⟨fun _ _ => by omega, ?_⟩
    have hf : (decide (1 ≤ n) && decide (n ≤ 31)) = false := by simp; omega
    simp [hf]
    intro _ _
    omega

theorem fits_c' {w : World} (x : Int) (n : Nat) (hn : n ≤ 32) : Calls Try.prog 71 [.int .i64 x, .int .i64 n].toArray w (Ret fun r w' => r = .bool (fitB x n) ∧ w' = w) := by
  refine F_sound c71 (by simp [fc71]) ?_
  simp [fc71, s71]
  unfold fitB
  by_cases h : 1 ≤ n ∧ n ≤ 31
  · refine ifg_r (t := true) (by simp; omega) (fun _ => ?_) (fun h => (h rfl).elim)
    refine callp (low_c' n hn) (by simp) ?_
    simp [h]
    by_cases h1 : lowI n ≤ x
    · refine ifg_r (t := true) (by simp; omega) (fun _ => ?_) (fun h => (h rfl).elim)
      refine callp (high_c' n hn) (by simp) ?_
      simp [h, h1]
      omega
    · refine ifg_r (t := false) (by simp; omega) (fun h => by cases h) (fun _ => ?_)
      simp [h, h1]
  · refine ifg_r (t := false) (by simp; omega) (fun h => by cases h) (fun _ => ?_)
    simp
    refine ⟨fun _ _ => by omega, ?_⟩
    refine ifg_r (t := false) (by simp; omega) (fun h => by cases h) (fun _ => ?_)
    simp
    refine ⟨fun _ _ => by omega, ?_⟩
    have hf : (decide (1 ≤ n) && decide (n ≤ 31)) = false := by simp; omega
    simp [hf]
    intro _ _
    omega

theorem widF_go {x : Int} {w : Nat} (hw : w < 32) (h : x ≠ 0 ∧ fitB x w = false) : widX w x = widX (w + 1) x := by
  unfold widX
  rw [show 32 - w = (32 - (w + 1)) + 1 by omega, widF, if_pos h]
theorem widF_stop {x : Int} {w : Nat} (hw : w ≤ 32) (h : ¬ (w < 32 ∧ x ≠ 0 ∧ fitB x w = false)) : widX w x = w := by
  unfold widX
  by_cases h32 : w = 32
  · subst h32; rfl
  · rw [show 32 - w = (32 - (w + 1)) + 1 by omega, widF, if_neg (fun hh => h ⟨by omega, hh⟩)]

set_option maxHeartbeats 1000000 in
theorem width2_c {G : Nat → Prop} {w : World} {v : Value} {l : List Int} (h : Rd G w v l.length (intsV l)) (hl : l.length ≤ 1000000) : Calls Try.prog 41 [v].toArray w (Ret fun r w' => r = .int .i64 (widL l) ∧ w' = w) := by
  refine F_sound c41 (by simp [fc41]) ?_
  obtain ⟨hS, hL⟩ := h.sl
  simp [fc41, s41]
  refine for_r l.length (fun i env' w' => env' 0 = v ∧ env' 3 = .int .i64 (widL (l.take i)) ∧ env' 4 = .int .i64 i ∧ w' = w) ?_ ?_ ?_
  · simp [widL]
  · rintro i env w' hi ⟨e0, e3, e4, rfl⟩
    simp [e0, e4, hS, hL]
    refine ite_r (t := true) (by simp; omega) (fun _ => ?_) (fun h => by cases h)
    simp [wp_blk]
    have hg := h.gi i hi
    have hp := h.some (by omega)
    have hle := widL_le (l.take i)
    rw [widL_snoc l i hi]
    generalize widL (l.take i) = W0 at *
    refine loop_w (fun m env' w'' => ∃ k : Nat, k ≤ 32 ∧ 32 - k ≤ m ∧ widX k (gi l i) = widX W0 (gi l i) ∧ env' 0 = v ∧ env' 3 = .int .i64 k ∧ env' 4 = .int .i64 i ∧ w'' = w') 32
      (fun env' w'' => env' 0 = v ∧ env' 3 = .int .i64 (widX W0 (gi l i)) ∧ env' 4 = .int .i64 i ∧ w'' = w') ?_ ?_ ?_
    · exact ⟨W0, by omega, by omega, rfl, by simp [e0], by simp [e3], by simp [e4], rfl⟩
    · rintro m env2 w2 ⟨k, hk, hm, hW, f0, f3, f4, rfl⟩
      simp [f0, f3, f4, hS, hL, hi, hg, hp]
      by_cases hc : (k : Int) < 32
      · by_cases hx : gi l i = 0
        · simp [hc, hx]
          refine ifg_r (t := false) (by simp) (fun h => by cases h) (fun _ => ?_)
          simp
          refine ite_r (t := false) (by simp) (fun h => by cases h) (fun _ => ?_)
          simp [f0, f3, f4]
          rw [hx] at hW
          rw [← hW, widF_stop hk (by simp)]
        · simp [hc, hx]
          refine ifg_r (t := true) (by simp [hx]) (fun _ => ?_) (fun h => (h rfl).elim)
          refine callp (fits2_c (gi l i) k hk) (by simp [f3]) ?_
          cases hf : fitB (gi l i) k
          · simp [hx]
            refine ite_r (t := true) (by simp [hx]) (fun _ => ?_) (fun h => by cases h)
            simp [wp_blk]
            simp [f3]
            have hw1 : IntKind.i64.wrap ((k : Int) + 1) = ((k + 1 : Nat) : Int) := by rw [wI (by omega) (by omega)]; omega
            simp [-Int.natCast_add, hw1, f0, f4]
            exact ⟨32 - (k + 1), by omega, k + 1, by omega, by omega, by rw [← widF_go (by omega) ⟨hx, hf⟩]; exact hW, rfl⟩
          · simp [hx]
            refine ite_r (t := false) (by simp) (fun h => by cases h) (fun _ => ?_)
            simp [f0, f3, f4]
            rw [← hW, widF_stop hk (by rw [hf]; simp)]
      · simp [hc]
        refine ifg_r (t := false) (by simp) (fun h => by cases h) (fun _ => ?_)
        simp
        refine ite_r (t := false) (by simp) (fun h => by cases h) (fun _ => ?_)
        simp [f0, f3, f4]
        rw [← hW, widF_stop hk (by omega)]
    · rintro env2 w2 ⟨f0, f3, f4, rfl⟩
      simp [f0, f3, f4]
      exact wI (by omega) (by omega)
  · rintro env w' ⟨e0, e3, e4, rfl⟩
    simp [e0, e4, hS, hL]
    refine ite_r (t := false) (by simp) (fun h => by cases h) (fun _ => ?_)
    simp [e3]

set_option maxHeartbeats 1000000 in
theorem width_c' {G : Nat → Prop} {w : World} {v : Value} {l : List Int} (h : Rd G w v l.length (intsV l)) (hl : l.length ≤ 1000000) : Calls Try.prog 49 [v].toArray w (Ret fun r w' => r = .int .i64 (widL l) ∧ w' = w) := by
  refine F_sound c49 (by simp [fc49]) ?_
  obtain ⟨hS, hL⟩ := h.sl
  simp [fc49, s49, hS, hL]
  refine for_r l.length (fun i env' w' => env' 6 = v ∧ env' 7 = .int .i64 l.length ∧ env' 3 = .int .i64 (widL (l.take i)) ∧ env' 8 = .int .i64 i ∧ w' = w) ?_ ?_ ?_
  · simp [widL, hL]
  · rintro i env w' hi ⟨e6, e7, e3, e8, rfl⟩
    simp [e7, e8]
    refine ite_r (t := true) (by simp; omega) (fun _ => ?_) (fun h => by cases h)
    simp [wp_blk]
    have hg := h.gi i hi
    have hp := h.some (by omega)
    have hle := widL_le (l.take i)
    rw [widL_snoc l i hi]
    generalize widL (l.take i) = W0 at *
    simp [e6, e8, hS, hL, hi, hg, hp]
    generalize gi l i = x at *
    refine loop_w (fun m env' w'' => ∃ k : Nat, k ≤ 32 ∧ 32 - k ≤ m ∧ widX k x = widX W0 x ∧ env' 6 = v ∧ env' 7 = .int .i64 l.length ∧ env' 3 = .int .i64 k ∧ env' 5 = .int .i64 x ∧ env' 8 = .int .i64 i ∧ w'' = w') 32
      (fun env' w'' => env' 6 = v ∧ env' 7 = .int .i64 l.length ∧ env' 3 = .int .i64 (widX W0 x) ∧ env' 8 = .int .i64 i ∧ w'' = w') ?_ ?_ ?_
    · exact ⟨W0, by omega, by omega, rfl, by simp [e6], by simp [e7], by simp [e3], by simp, by simp [e8], rfl⟩
    · rintro m env2 w2 ⟨k, hk, hm, hW, f6, f7, f3, f5, f8, rfl⟩
      simp [f3, f5]
      by_cases hx : x = 0
      · simp [hx]
        refine ifg_r (t := false) (by simp) (fun h => by cases h) (fun _ => ?_)
        simp
        refine ite_r (t := false) (by simp) (fun h => by cases h) (fun _ => ?_)
        simp [f3, f6, f7, f8]
        subst hx
        rw [← hW, widF_stop hk (by simp)]
      by_cases hc : (k : Int) < 32
      · simp [hc, hx]
        refine ifg_r (t := true) (by simp [hx]) (fun _ => ?_) (fun h => (h rfl).elim)
        refine callp (fits_c' x k hk) (by simp [f3, f5]) ?_
        cases hf : fitB x k
        · simp [hx]
          refine ite_r (t := true) (by simp [hx]) (fun _ => ?_) (fun h => by cases h)
          simp [wp_blk]
          simp [f3]
          have hw1 : IntKind.i64.wrap ((k : Int) + 1) = ((k + 1 : Nat) : Int) := by rw [wI (by omega) (by omega)]; omega
          simp [-Int.natCast_add, hw1, f5, f6, f7, f8]
          exact ⟨32 - (k + 1), by omega, k + 1, by omega, by omega, by rw [← widF_go (by omega) ⟨hx, hf⟩]; exact hW, rfl⟩
        · simp [hx]
          refine ite_r (t := false) (by simp) (fun h => by cases h) (fun _ => ?_)
          simp [f3, f6, f7, f8]
          rw [← hW, widF_stop hk (by rw [hf]; simp)]
      · simp [hc, hx]
        refine ifg_r (t := false) (by simp) (fun h => by cases h) (fun _ => ?_)
        simp
        refine ite_r (t := false) (by simp) (fun h => by cases h) (fun _ => ?_)
        simp [f3, f6, f7, f8]
        rw [← hW, widF_stop hk (by omega)]
    · rintro env2 w2 ⟨f6, f7, f3, f8, rfl⟩
      simp [f3, f6, f7, f8]
      exact wI (by omega) (by omega)
  · rintro env w' ⟨e6, e7, e3, e8, rfl⟩
    simp [e7, e8]
    refine ite_r (t := false) (by simp) (fun h => by cases h) (fun _ => ?_)
    simp [e3]

end Go.Proofs.Ytajkofndbeohpaa.VG
