/-
  Complete codes: the program's test and the document's (and what goes with it: parts Qg Qh).
-/
import Derived.Test.YtgjnfajdejkkjaaKe

/-! ## Complete codes: the program's test and the document's. -/
namespace Go.Proofs.Ytgjnfajdejkkjaa.VG
open Go
set_option linter.unusedSimpArgs false
set_option linter.unusedVariables false
set_option maxRecDepth 20000

def usN (l : List Int) : Nat := (l.filter fun n => decide (0 < n)).length
def onN (l : List Int) : Nat := (l.filter fun n => decide (n = 1)).length
def loN (l : List Int) : Int := l.foldl max 0
def part24 (n : Int) : Int := if 0 < n then p2 (24 - n) else 0
def suN (l : List Int) : Int := (l.map part24).sum
def okLen (n : Int) : Bool := decide (0 ≤ n) && decide (n ≤ 24)
theorem okLen_iff {n : Int} : okLen n = true ↔ 0 ≤ n ∧ n ≤ 24 := by simp [okLen]
def fullB (l : List Int) : Bool := decide (1 ≤ l.length) && decide (l.length ≤ 1024) && l.all okLen && (if usN l = 1 then decide (loN l = 1) else decide (suN l = 16777216))

theorem usN_snoc (l : List Int) (n : Int) : usN (l ++ [n]) = usN l + (if 0 < n then 1 else 0) := by
  unfold usN
  rw [List.filter_append, List.length_append]
  by_cases h : 0 < n <;> simp [h]
theorem onN_snoc (l : List Int) (n : Int) : onN (l ++ [n]) = onN l + (if n = 1 then 1 else 0) := by
  unfold onN
  rw [List.filter_append, List.length_append]
  by_cases h : n = 1 <;> simp [h]
theorem loN_snoc (l : List Int) (n : Int) : loN (l ++ [n]) = max (loN l) n := by simp [loN, List.foldl_append]
theorem suN_snoc (l : List Int) (n : Int) : suN (l ++ [n]) = suN l + part24 n := by simp [suN]
theorem usN_le (l : List Int) : usN l ≤ l.length := List.length_filter_le ..
theorem onN_le (l : List Int) : onN l ≤ l.length := List.length_filter_le ..
theorem p2_24 {n : Int} (h0 : 0 < n) : 1 ≤ p2 (24 - n) ∧ p2 (24 - n) ≤ 8388608 := by
  have h1 : 2 ^ (24 - n).toNat ≤ 2 ^ 23 := Nat.pow_le_pow_right (by omega) (by omega)
  have h2 := Nat.two_pow_pos (24 - n).toNat
  unfold p2; omega
theorem part24_bd (n : Int) : 0 ≤ part24 n ∧ part24 n ≤ 8388608 := by
  unfold part24
  split
  · rename_i h
    have := p2_24 h
    omega
  · omega
theorem suN_bd : ∀ l : List Int, 0 ≤ suN l ∧ suN l ≤ 8388608 * l.length
  | [] => by simp [suN]
  | n :: r => by
    have ih := suN_bd r
    have h := part24_bd n
    have e : suN (n :: r) = part24 n + suN r := by simp [suN]
    rw [e, List.length_cons]
    omega
theorem loN_nn (l : List Int) : ∀ a : Int, a ≤ l.foldl max a := by
  induction l with
  | nil => intro a; exact Int.le_refl _
  | cons x r ih => intro a; exact Int.le_trans (Int.le_max_left a x) (ih _)
theorem loN_bd {l : List Int} (h : l.all okLen = true) : 0 ≤ loN l ∧ loN l ≤ 24 := by
  refine ⟨loN_nn l 0, ?_⟩
  unfold loN
  suffices hs : ∀ (r : List Int) (a : Int), r.all okLen = true → a ≤ 24 → r.foldl max a ≤ 24 from hs l 0 h (by omega)
  intro r
  induction r with
  | nil => intro a _ ha; exact ha
  | cons x r ih =>
    intro a hr ha
    rw [List.all_cons, Bool.and_eq_true, okLen_iff] at hr
    exact ih _ hr.2 (by omega)
/-- Full as the document says it. -/
theorem fullB_ref (l : List Int) : fullB l = (decide (1 ≤ l.length) && decide (l.length ≤ 1024) && l.all okLen && (decide (usN l = 1) && decide (onN l = 1) || decide (1 < usN l) && decide (suN l = 16777216))) := by
  unfold fullB
  by_cases h1 : usN l = 1
  · have : decide (loN l = 1) = decide (onN l = 1) := by
      apply decide_eq_decide.2
      have key : ∀ r : List Int, usN r = 1 → (loN r = 1 ↔ onN r = 1) := by
        intro r
        suffices hs : ∀ (n : Nat) (r : List Int), r.length = n → (usN r = 0 → loN r = 0 ∧ onN r = 0) ∧ (usN r = 1 → (loN r = 1 ↔ onN r = 1)) from (hs r.length r rfl).2
        intro n
        induction n with
        | zero =>
          intro r hr
          obtain rfl := List.length_eq_zero_iff.1 hr
          exact ⟨fun _ => ⟨rfl, rfl⟩, fun h => by simp [usN] at h⟩
        | succ n ih =>
          intro r hr
          obtain ⟨r', y, rfl⟩ : ∃ r' y, r = r' ++ [y] := ⟨r.dropLast, r.getLast (by intro h; simp [h] at hr), (List.dropLast_concat_getLast _).symm⟩
          obtain ⟨i0, i1⟩ := ih r' (by simpa using hr)
          rw [usN_snoc, loN_snoc, onN_snoc]
          by_cases hy : 0 < y
          · rw [if_pos hy]
            refine ⟨fun h => by omega, fun h => ?_⟩
            obtain ⟨a, b⟩ := i0 (by omega)
            rw [a, b]
            by_cases hy1 : y = 1
            · rw [if_pos hy1]; omega
            · rw [if_neg hy1]; omega
          · rw [if_neg hy, if_neg (show ¬ y = 1 by omega)]
            have hnn : 0 ≤ loN r' := loN_nn r' 0
            refine ⟨fun h => ?_, fun h => ?_⟩
            · obtain ⟨a, b⟩ := i0 (by omega)
              omega
            · have := i1 (by omega)
              rw [show max (loN r') y = loN r' by omega]
              exact this
      exact key l h1
    rw [if_pos h1, this]
    simp [h1]
  · rw [if_neg h1]
    by_cases h2 : 1 < usN l
    · simp [h1, h2]
    · have h0 : usN l = 0 := by omega
      have hs : ∀ r : List Int, usN r = 0 → suN r = 0 := by
        intro r
        induction r with
        | nil => intro _; rfl
        | cons x r ih =>
          intro h
          have hx : ¬ 0 < x := by intro hx; simp [usN, hx] at h
          have e : suN (x :: r) = part24 x + suN r := by simp [suN]
          rw [e, ih (by simpa [usN, hx] using h)]
          simp [part24, hx]
      rw [hs l h0]
      simp [h0]

theorem all_take_succ {f : Int → Bool} {l : List Int} {i : Nat} (h : (l.take i).all f = true) (hi : i < l.length) (hg : f (gi l i) = true) : (l.take (i + 1)).all f = true := by
  rw [gi_take_snoc l i hi, List.all_append, h]; simp [hg]
theorem all_false {f : Int → Bool} {l : List Int} {i : Nat} (hi : i < l.length) (hg : f (gi l i) = false) : l.all f = false := by
  apply Bool.eq_false_iff.2
  intro h
  have := List.all_eq_true.1 h _ (gi_mem l i hi)
  rw [hg] at this
  cases this

theorem sh24 {n : Int} (h0 : 0 < n) (h : n ≤ 24) : IntKind.i64.wrap (24 - n) = 24 - n ∧ shl .i64 1 (24 - n) = p2 (24 - n) := ⟨wI (by omega) (by omega), shl_p2 (by omega) (by omega)⟩

def FInv (v : Value) (l : List Int) (w : World) (i : Nat) (env' : Env) (w' : World) : Prop :=
  w' = w ∧ env' 16 = v ∧ env' 17 = .int .i64 l.length ∧ env' 18 = .int .i64 i ∧ env' 3 = .int .i64 (usN (l.take i)) ∧ env' 4 = .int .i64 (loN (l.take i)) ∧ env' 5 = .int .i64 (suN (l.take i)) ∧ (l.take i).all okLen = true

set_option maxHeartbeats 4000000 in
theorem full_c {G : Nat → Prop} {w : World} {v : Value} {l : List Int} (hr : Rd G w v l.length (intsV l)) (hl : l.length ≤ 1000000) :
    Calls Try.prog 16 [v].toArray w (Ret fun r w' => r = .bool (fullB l) ∧ w' = w) := by
  refine F_sound c16 (by simp [fc16]) ?_
  obtain ⟨hS, hSL⟩ := hr.sl
  unfold fullB
  simp [fc16, s16, hS, hSL]
  by_cases hlen : 1 ≤ l.length ∧ l.length ≤ 1024
  · refine ite_r (t := false) (by simp; omega) (fun h => by cases h) (fun _ => ?_)
    simp [hS, hSL]
    refine for_r l.length (FInv v l w) ?_ ?_ ?_
    · exact ⟨rfl, by simp, by simp, by simp, by simp [usN], by simp [loN], by simp [suN], by simp⟩
    · rintro i env w1 hi ⟨rfl, e16, e17, e18, e3, e4, e5, ha⟩
      have wi : IntKind.i64.wrap ((i : Int) + 1) = ((i + 1 : Nat) : Int) := by rw [wI (by omega) (by omega)]; omega
      have cf := hr.gi i hi
      have pf := hr.some (by omega)
      have hu := usN_le (l.take i)
      rw [List.length_take] at hu
      have hsb := suN_bd (l.take i)
      have htl : (l.take i).length = i := by rw [List.length_take]; omega
      rw [htl] at hsb
      have hlb := loN_bd ha
      have htk := gi_take_snoc l i hi
      generalize hx : gi l i = x at *
      simp [e17, e18]
      refine ite_r (t := true) (by simp [hi]) (fun _ => ?_) (fun h => by cases h)
      simp [wp_blk, e16, e18, hS, hSL, pf, cf, hi]
      by_cases hok : okLen x = true
      · have hok' := okLen_iff.1 hok
        have ha' := all_take_succ ha hi (by rw [hx]; exact hok)
        refine ite_r (t := false) (by simp; omega) (fun h => by cases h) (fun _ => ?_)
        simp
        by_cases hpos : 0 < x
        · obtain ⟨s1, s2⟩ := sh24 hpos hok'.2
          have pb := p2_24 hpos
          have wu : IntKind.i64.wrap ((usN (l.take i) : Int) + 1) = ((usN (l.take i) + 1 : Nat) : Int) := by rw [wI (by omega) (by omega)]; omega
          have wsu : IntKind.i64.wrap (suN (l.take i) + p2 (24 - x)) = suN (l.take i) + p2 (24 - x) := wI (by omega) (by omega)
          refine ite_r (t := true) (by simp [hpos]) (fun _ => ?_) (fun h => by cases h)
          simp [e3, e4, e5, e18, wi, s1, s2, wu, wsu]
          refine ⟨by omega, rfl, by simp [e16], by simp [e17], by simp, ?_, ?_, ?_, ha'⟩
          · rw [htk, usN_snoc, if_pos hpos]; simp
          · rw [htk, loN_snoc]; simp; split <;> omega
          · rw [htk, suN_snoc, part24, if_pos hpos]; simp
        · refine ite_r (t := false) (by simp; omega) (fun h => by cases h) (fun _ => ?_)
          simp [e18, wi]
          refine ⟨rfl, by simp [e16], by simp [e17], by simp, ?_, ?_, ?_, ha'⟩
          · rw [htk, usN_snoc, if_neg hpos]; simp [e3]
          · rw [htk, loN_snoc, show max (loN (l.take i)) x = loN (l.take i) by omega]; simp [e4]
          · rw [htk, suN_snoc, part24, if_neg hpos]; simp [e5]
      · have hb : okLen x = false := by simpa using hok
        have hnot : ¬ (0 ≤ x ∧ x ≤ 24) := fun h => hok (okLen_iff.2 h)
        refine ite_r (t := true) (by simp; omega) (fun _ => ?_) (fun h => by cases h)
        simp
        intro _ _ hA
        have := hA _ (gi_mem l i hi)
        rw [hx, hb] at this
        cases this
    · rintro env w1 ⟨rfl, e16, e17, e18, e3, e4, e5, ha⟩
      rw [List.take_length] at e3 e4 e5 ha
      simp [e17, e18]
      refine ite_r (t := false) (by simp) (fun h => by cases h) (fun _ => ?_)
      simp [e3, e4, e5]
      by_cases hu : usN l = 1
      · refine ite_r (t := true) (by simp [hu]) (fun _ => ?_) (fun h => by cases h)
        simp [e4, hu, ha, hlen]
        rfl
      · refine ite_r (t := false) (by simp; omega) (fun h => by cases h) (fun _ => ?_)
        simp [e5, hu, ha, hlen]
        rfl
  · refine ite_r (t := true) (by simp; omega) (fun _ => ?_) (fun h => by cases h)
    simp
    intro h1 h2
    exact absurd ⟨by omega, h2⟩ hlen


def FInv2 (v : Value) (l : List Int) (w : World) (i : Nat) (env' : Env) (w' : World) : Prop :=
  w' = w ∧ env' 0 = v ∧ env' 6 = .int .i64 i ∧ env' 4 = .int .i64 (usN (l.take i)) ∧ env' 5 = .int .i64 (onN (l.take i)) ∧ env' 3 = .int .i64 (suN (l.take i)) ∧ (l.take i).all okLen = true
theorem sh24u {n : Int} (h0 : 0 < n) (h : n ≤ 24) : IntKind.i64.wrap (24 - n) = 24 - n ∧ IntKind.u64.wrap (24 - n) = 24 - n ∧ shl .i64 1 (24 - n) = p2 (24 - n) := by
  refine ⟨wI (by omega) (by omega), ?_, shl_p2 (by omega) (by omega)⟩
  obtain ⟨k, hk⟩ : ∃ k : Nat, 24 - n = k := ⟨(24 - n).toNat, by omega⟩
  rw [hk]
  exact wU (by omega) (by omega)

set_option maxHeartbeats 4000000 in
theorem full2_c {G : Nat → Prop} {w : World} {v : Value} {l : List Int} (hr : Rd G w v l.length (intsV l)) (hl : l.length ≤ 1000000) :
    Calls Try.prog 18 [v].toArray w (Ret fun r w' => r = .bool (fullB l) ∧ w' = w) := by
  refine F_sound c18 (by simp [fc18]) ?_
  obtain ⟨hS, hSL⟩ := hr.sl
  rw [fullB_ref]
  simp [fc18, s18, hS, hSL]
  by_cases hlen : 1 ≤ l.length ∧ l.length ≤ 1024
  · refine ite_r (t := false) (by simp; omega) (fun h => by cases h) (fun _ => ?_)
    simp
    refine for_r l.length (FInv2 v l w) ?_ ?_ ?_
    · exact ⟨rfl, by simp, by simp, by simp [usN], by simp [onN], by simp [suN], by simp⟩
    · rintro i env w1 hi ⟨rfl, e0, e6, e4, e5, e3, ha⟩
      have wi : IntKind.i64.wrap ((i : Int) + 1) = ((i + 1 : Nat) : Int) := by rw [wI (by omega) (by omega)]; omega
      have cf := hr.gi i hi
      have pf := hr.some (by omega)
      have hu := usN_le (l.take i)
      have ho := onN_le (l.take i)
      rw [List.length_take] at hu ho
      have hsb := suN_bd (l.take i)
      have htl : (l.take i).length = i := by rw [List.length_take]; omega
      rw [htl] at hsb
      have htk := gi_take_snoc l i hi
      generalize hx : gi l i = x at *
      have wo : IntKind.i64.wrap ((onN (l.take i) : Int) + 1) = ((onN (l.take i) + 1 : Nat) : Int) := by rw [wI (by omega) (by omega)]; omega
      simp [e0, e6, hS, hSL]
      refine ite_r (t := true) (by simp [hi]) (fun _ => ?_) (fun h => by cases h)
      simp [wp_blk, e0, e6, hS, hSL, pf, cf, hi]
      by_cases hok : okLen x = true
      · have hok' := okLen_iff.1 hok
        have ha' := all_take_succ ha hi (by rw [hx]; exact hok)
        refine ite_r (t := false) (by simp; omega) (fun h => by cases h) (fun _ => ?_)
        simp
        by_cases hpos : 0 < x
        · obtain ⟨s1, s2, s3⟩ := sh24u hpos hok'.2
          have pb := p2_24 hpos
          have wu : IntKind.i64.wrap ((usN (l.take i) : Int) + 1) = ((usN (l.take i) + 1 : Nat) : Int) := by rw [wI (by omega) (by omega)]; omega
          have wsu : IntKind.i64.wrap (suN (l.take i) + p2 (24 - x)) = suN (l.take i) + p2 (24 - x) := wI (by omega) (by omega)
          refine ite_r (t := true) (by simp [hpos]) (fun _ => ?_) (fun h => by cases h)
          simp [e3, e4, e5, e6, wi, s1, s2, s3, wu, wsu]
          refine ⟨by omega, ?_⟩
          by_cases h1 : x = 1
          · refine ite_r (t := true) (by simp [h1]) (fun _ => ?_) (fun h => by cases h)
            simp [e5, e6, wi, wo]
            refine ⟨rfl, by simp [e0], by simp, ?_, ?_, ?_, ha'⟩
            · rw [htk, usN_snoc, if_pos hpos]; simp
            · rw [htk, onN_snoc, if_pos h1]; simp
            · rw [htk, suN_snoc, part24, if_pos hpos]; simp
          · refine ite_r (t := false) (by simp [h1]) (fun h => by cases h) (fun _ => ?_)
            simp [e5, e6, wi, wo]
            refine ⟨rfl, by simp [e0], by simp, ?_, ?_, ?_, ha'⟩
            · rw [htk, usN_snoc, if_pos hpos]; simp
            · rw [htk, onN_snoc, if_neg h1]; simp [e5]
            · rw [htk, suN_snoc, part24, if_pos hpos]; simp
        · refine ite_r (t := false) (by simp; omega) (fun h => by cases h) (fun _ => ?_)
          simp
          refine ite_r (t := false) (by simp; omega) (fun h => by cases h) (fun _ => ?_)
          simp [e6, wi]
          refine ⟨rfl, by simp [e0], by simp, ?_, ?_, ?_, ha'⟩
          · rw [htk, usN_snoc, if_neg hpos]; simp [e4]
          · rw [htk, onN_snoc, if_neg (show ¬ x = 1 by omega)]; simp [e5]
          · rw [htk, suN_snoc, part24, if_neg hpos]; simp [e3]
      · have hb : okLen x = false := by simpa using hok
        have hnot : ¬ (0 ≤ x ∧ x ≤ 24) := fun h => hok (okLen_iff.2 h)
        refine ite_r (t := true) (by simp; omega) (fun _ => ?_) (fun h => by cases h)
        simp
        intro _ _ hA
        have := hA _ (gi_mem l i hi)
        rw [hx, hb] at this
        cases this
    · rintro env w1 ⟨rfl, e0, e6, e4, e5, e3, ha⟩
      rw [List.take_length] at e3 e4 e5 ha
      simp [e0, e6, hS, hSL]
      refine ite_r (t := false) (by simp) (fun h => by cases h) (fun _ => ?_)
      simp [e3, e4, e5]
      have hA : ∀ x ∈ l, okLen x = true := List.all_eq_true.1 ha
      simp [hlen, ha]
      rw [Bool.eq_iff_iff]
      simp
      omega
  · refine ite_r (t := true) (by simp; omega) (fun _ => ?_) (fun h => by cases h)
    simp
    intro h1 h2
    exact absurd ⟨by omega, h2⟩ hlen

end Go.Proofs.Ytgjnfajdejkkjaa.VG

/-! ## The used symbols by length. -/
namespace Go.Proofs.Ytgjnfajdejkkjaa.VG
open Go
set_option linter.unusedSimpArgs false
set_option linter.unusedVariables false
set_option maxRecDepth 20000

def natsV (l : List Nat) : List Value := intsV (l.map fun n : Nat => (n : Int))
theorem natsV_snoc (l : List Nat) (x : Nat) : natsV l ++ [Value.int .i64 x] = natsV (l ++ [x]) := by simp [natsV, intsV]
theorem natsV_length (l : List Nat) : (natsV l).length = l.length := by simp [natsV, intsV]
def filN (l : List Int) (n i : Nat) : List Nat := (List.range i).filter fun j => decide (gi l j = ((n + 1 : Nat) : Int))
def rkN (l : List Int) (k : Nat) : List Nat := (List.range k).flatMap fun n => filN l n l.length
theorem filN_snoc (l : List Int) (n i : Nat) : filN l n (i + 1) = filN l n i ++ (if gi l i = ((n + 1 : Nat) : Int) then [i] else []) := by
  unfold filN
  rw [List.range_succ, List.filter_append]
  by_cases h : gi l i = ((n + 1 : Nat) : Int)
  · rw [if_pos h]; simp only [List.filter_cons, List.filter_nil, decide_eq_true h, if_true]
  · rw [if_neg h]; simp only [List.filter_cons, List.filter_nil, decide_eq_false h]; rfl
theorem rkN_snoc (l : List Int) (k : Nat) : rkN l (k + 1) = rkN l k ++ filN l k l.length := by
  unfold rkN
  rw [List.range_succ, List.flatMap_append]; simp
theorem filN_le (l : List Int) (n i : Nat) : (filN l n i).length ≤ i := by
  have := List.length_filter_le (fun j => decide (gi l j = ((n + 1 : Nat) : Int))) (List.range i)
  rw [List.length_range] at this
  exact this
theorem rkN_le (l : List Int) : ∀ k, (rkN l k).length ≤ k * l.length
  | 0 => by simp [rkN]
  | k + 1 => by
    have h1 := rkN_le l k
    have h2 := filN_le l k l.length
    rw [rkN_snoc, List.length_append, Nat.succ_mul]
    omega
theorem filN_mem {l : List Int} {n i x : Nat} : x ∈ filN l n i ↔ x < i ∧ gi l x = ((n + 1 : Nat) : Int) := by simp [filN]
theorem rkN_mem {l : List Int} {k x : Nat} : x ∈ rkN l k ↔ x < l.length ∧ ∃ n, n < k ∧ gi l x = ((n + 1 : Nat) : Int) := by
  unfold rkN
  rw [List.mem_flatMap]
  constructor
  · rintro ⟨n, hn, hx⟩
    rw [filN_mem] at hx
    exact ⟨hx.1, n, List.mem_range.1 hn, hx.2⟩
  · rintro ⟨h, n, hn, hx⟩
    exact ⟨n, List.mem_range.2 hn, filN_mem.2 ⟨h, hx⟩⟩

def OwnN (w w' : World) (v : Value) (l : List Nat) : Prop := Hp w w' [.own 3 1 v l.length (natsV l)]
def KIn (w : World) (v : Value) (l : List Int) (k i : Nat) (env' : Env) (w' : World) : Prop := env' 0 = v ∧ env' 4 = .int .i64 (k + 1 : Nat) ∧ ∃ v', env' 3 = v' ∧ OwnN w w' v' (rkN l k ++ filN l k i)
def KOut (w : World) (v : Value) (l : List Int) (k : Nat) (env' : Env) (w' : World) : Prop := env' 0 = v ∧ env' 4 = .int .i64 (k + 1 : Nat) ∧ ∃ v', env' 3 = v' ∧ OwnN w w' v' (rkN l k)

set_option maxHeartbeats 4000000 in
theorem ranked_c {G : Nat → Prop} {w : World} {v : Value} {l : List Int} (hr : Rd G w v l.length (intsV l)) (hl : l.length ≤ 1000000) :
    Calls Try.prog 39 [v].toArray w (Ret fun r w' => OwnN w w' r (rkN l 24)) := by
  refine F_sound c39 (by simp [fc39]) ?_
  obtain ⟨hS, hSL⟩ := hr.sl
  have hM : maxLen = 9223372036854775807 := rfl
  simp [fc39, s39]
  have H : Hp w w [.own 3 1 (.slice none 0 0) 0 []] := (Hp.nil w).nilS
  refine for_r 24 (KOut w v l) ?_ ?_ ?_
  · exact ⟨by simp, by simp, _, by simp, H⟩
  · rintro k env w1 hk ⟨e0, e4, ve, e3, H⟩
    have wk : IntKind.i64.wrap (((k + 1 : Nat) : Int) + 1) = ((k + 1 + 1 : Nat) : Int) := by rw [wI (by omega) (by omega)]; omega
    simp [e4, -Int.natCast_add]
    refine ite_r (t := true) (by simp; omega) (fun _ => ?_) (fun h => by cases h)
    simp [wp_blk, e0, hS, hSL, -Int.natCast_add]
    refine for_r l.length (fun i env' w' => env' 11 = v ∧ env' 12 = .int .i64 l.length ∧ env' 13 = .int .i64 i ∧ KIn w v l k i env' w') ?_ ?_ ?_
    · exact ⟨by simp, by simp, by simp, by simp [e0], by simp [e4, -Int.natCast_add], ve, by simp [e3], by simpa [filN] using H⟩
    · rintro i env w2 hi ⟨e11, e12, e13, e0, e4, ve, e3, H⟩
      have wi : IntKind.i64.wrap ((i : Int) + 1) = ((i + 1 : Nat) : Int) := by rw [wI (by omega) (by omega)]; omega
      have cf := (hr.at H.mod).gi i hi
      have pf := hr.some (by omega)
      have hb := rkN_le l k
      have hb2 := filN_le l k i
      have hb3 : k * l.length ≤ 23 * l.length := Nat.mul_le_mul_right _ (by omega)
      have hal : (rkN l k ++ filN l k i).length ≤ 24000000 := by rw [List.length_append]; omega
      have hsn := filN_snoc l k i
      simp [e12, e13]
      refine ite_r (t := true) (by simp [hi]) (fun _ => ?_) (fun h => by cases h)
      simp [wp_blk, e4, e11, e13, hS, hSL, pf, cf, hi, -Int.natCast_add]
      by_cases he : gi l i = ((k + 1 : Nat) : Int)
      · refine ite_r (t := true) (by simp [he, -Int.natCast_add]) (fun _ => ?_) (fun h => by cases h)
        simp
        refine app1_h slTI 0 H rfl (u := .int .i64 i) rfl (by omega) (by omega) (by simp) (by simp [e3]) (by simp) (fun _ _ => trivial) ?_
        intro vb v' w5 w6 H
        refine ⟨.inl rfl, ?_⟩
        simp [e13, wi, -Int.natCast_add]
        refine ⟨by simp [e11], by simp [e12], by simp, by simp [e0], by simp [e4, -Int.natCast_add], v', by simp, ?_⟩
        rw [if_pos he] at hsn
        rw [natsV_snoc] at H
        unfold OwnN
        rw [hsn, ← List.append_assoc, List.length_append]
        exact H
      · refine ite_r (t := false) (by simp [he, -Int.natCast_add]) (fun h => by cases h) (fun _ => ?_)
        simp [e13, wi, -Int.natCast_add]
        rw [if_neg he, List.append_nil] at hsn
        exact ⟨by simp [e11], by simp [e12], by simp, by simp [e0], by simp [e4, -Int.natCast_add], ve, by simp [e3], by rw [hsn]; exact H⟩
    · rintro env w2 ⟨e11, e12, e13, e0, e4, ve, e3, H⟩
      simp [e12, e13]
      refine ite_r (t := false) (by simp) (fun h => by cases h) (fun _ => ?_)
      simp [e4, wk, -Int.natCast_add]
      exact ⟨by simp [e0], by simp, ve, by simp [e3], by rw [rkN_snoc]; exact H⟩
  · rintro env w1 ⟨e0, e4, ve, e3, H⟩
    simp [e4]
    refine ite_r (t := false) (by simp) (fun h => by cases h) (fun _ => ?_)
    simp [e3]
    exact H

set_option maxHeartbeats 4000000 in
theorem used_c {G : Nat → Prop} {w : World} {v : Value} {l : List Int} (hr : Rd G w v l.length (intsV l)) (hl : l.length ≤ 1000000) :
    Calls Try.prog 40 [v].toArray w (Ret fun r w' => OwnN w w' r (rkN l 24)) := by
  refine F_sound c40 (by simp [fc40]) ?_
  obtain ⟨hS, hSL⟩ := hr.sl
  have hM : maxLen = 9223372036854775807 := rfl
  simp [fc40, s40]
  have H : Hp w w [.own 3 1 (.slice none 0 0) 0 []] := (Hp.nil w).nilS
  refine for_r 24 (KOut w v l) ?_ ?_ ?_
  · exact ⟨by simp, by simp, _, by simp, H⟩
  · rintro k env w1 hk ⟨e0, e4, ve, e3, H⟩
    have wk : IntKind.i64.wrap (((k + 1 : Nat) : Int) + 1) = ((k + 1 + 1 : Nat) : Int) := by rw [wI (by omega) (by omega)]; omega
    simp [e4, -Int.natCast_add]
    refine ite_r (t := true) (by simp; omega) (fun _ => ?_) (fun h => by cases h)
    simp [wp_blk, e0, hS, hSL, -Int.natCast_add]
    refine for_r l.length (fun i env' w' => env' 5 = .int .i64 i ∧ KIn w v l k i env' w') ?_ ?_ ?_
    · exact ⟨by simp, by simp [e0], by simp [e4, -Int.natCast_add], ve, by simp [e3], by simpa [filN] using H⟩
    · rintro i env w2 hi ⟨e5, e0, e4, ve, e3, H⟩
      have wi : IntKind.i64.wrap ((i : Int) + 1) = ((i + 1 : Nat) : Int) := by rw [wI (by omega) (by omega)]; omega
      have cf := (hr.at H.mod).gi i hi
      have pf := hr.some (by omega)
      have hb := rkN_le l k
      have hb2 := filN_le l k i
      have hb3 : k * l.length ≤ 23 * l.length := Nat.mul_le_mul_right _ (by omega)
      have hal : (rkN l k ++ filN l k i).length ≤ 24000000 := by rw [List.length_append]; omega
      have hsn := filN_snoc l k i
      simp [e0, e5, hS, hSL]
      refine ite_r (t := true) (by simp [hi]) (fun _ => ?_) (fun h => by cases h)
      simp [wp_blk, e0, e4, e5, hS, hSL, pf, cf, hi, -Int.natCast_add]
      by_cases he : gi l i = ((k + 1 : Nat) : Int)
      · refine ite_r (t := true) (by simp [he, -Int.natCast_add]) (fun _ => ?_) (fun h => by cases h)
        simp
        refine app1_h slTI 0 H rfl (u := .int .i64 i) rfl (by omega) (by omega) (by simp [e5]) (by simp [e3]) (by simp) (fun _ _ => trivial) ?_
        intro vb v' w5 w6 H
        refine ⟨.inl rfl, ?_⟩
        simp [e5, wi, -Int.natCast_add]
        refine ⟨by simp, by simp [e0], by simp [e4, -Int.natCast_add], v', by simp, ?_⟩
        rw [if_pos he] at hsn
        rw [natsV_snoc] at H
        unfold OwnN
        rw [hsn, ← List.append_assoc, List.length_append]
        exact H
      · refine ite_r (t := false) (by simp [he, -Int.natCast_add]) (fun h => by cases h) (fun _ => ?_)
        simp [e5, wi, -Int.natCast_add]
        rw [if_neg he, List.append_nil] at hsn
        exact ⟨by simp, by simp [e0], by simp [e4, -Int.natCast_add], ve, by simp [e3], by rw [hsn]; exact H⟩
    · rintro env w2 ⟨e5, e0, e4, ve, e3, H⟩
      simp [e0, e5, hS, hSL]
      refine ite_r (t := false) (by simp) (fun h => by cases h) (fun _ => ?_)
      simp [e4, wk, -Int.natCast_add]
      exact ⟨by simp [e0], by simp, ve, by simp [e3], by rw [rkN_snoc]; exact H⟩
  · rintro env w1 ⟨e0, e4, ve, e3, H⟩
    simp [e4]
    refine ite_r (t := false) (by simp) (fun h => by cases h) (fun _ => ?_)
    simp [e3]
    exact H

end Go.Proofs.Ytgjnfajdejkkjaa.VG
