/-
  The used symbols by length.
-/
import Derived.Test.YtgjnfajdejkkjaaQg
namespace Go.Proofs.Ytgjnfajdejkkjaa.VG
open Go
set_option linter.unusedSimpArgs false
set_option linter.unusedVariables false
set_option maxRecDepth 20000

def natsV (l : List Nat) : List Value := intsV (l.map fun n : Nat => (n : Int))
theorem natsV_snoc (l : List Nat) (x : Nat) : natsV l ++ [Value.int .i64 x] = natsV (l ++ [x]) := by simp [natsV, intsV]
theorem natsV_length (l : List Nat) : (natsV l).length = l.length := by simp [natsV, intsV]
def filN (l : List Int) (n i : Nat) : List Nat := (List.range i).filter fun j => decide (gi l j = ((n + 1 : Nat) : Int))
def rkN (l : List Int) (k : Nat) : List Nat := (List.range k).flatMap fun n => filN l n l.length
theorem filN_snoc (l : List Int) (n i : Nat) : filN l n (i + 1) = filN l n i ++ (if gi l i = ((n + 1 : Nat) : Int) then [i] else []) := by
  unfold filN
  rw [List.range_succ, List.filter_append]
  by_cases h : gi l i = ((n + 1 : Nat) : Int)
  · rw [if_pos h]; simp only [List.filter_cons, List.filter_nil, decide_eq_true h, if_true]
  · rw [if_neg h]; simp only [List.filter_cons, List.filter_nil, decide_eq_false h]; rfl
theorem rkN_snoc (l : List Int) (k : Nat) : rkN l (k + 1) = rkN l k ++ filN l k l.length := by
  unfold rkN
  rw [List.range_succ, List.flatMap_append]; simp
theorem filN_le (l : List Int) (n i : Nat) : (filN l n i).length ≤ i := by
  have := List.length_filter_le (fun j => decide (gi l j = ((n + 1 : Nat) : Int))) (List.range i)
  rw [List.length_range] at this
  exact this
theorem rkN_le (l : List Int) : ∀ k, (rkN l k).length ≤ k * l.length
  | 0 => by simp [rkN]
  | k + 1 => by
    have h1 := rkN_le l k
    have h2 := filN_le l k l.length
    rw [rkN_snoc, List.length_append, Nat.succ_mul]
    omega
theorem filN_mem {l : List Int} {n i x : Nat} : x ∈ filN l n i ↔ x < i ∧ gi l x = ((n + 1 : Nat) : Int) := by simp [filN]
theorem rkN_mem {l : List Int} {k x : Nat} : x ∈ rkN l k ↔ x < l.length ∧ ∃ n, n < k ∧ gi l x = ((n + 1 : Nat) : Int) := by
  unfold rkN
  rw [List.mem_flatMap]
  constructor
  · rintro ⟨n, hn, hx⟩
    rw [filN_mem] at hx
    exact ⟨hx.1, n, List.mem_range.1 hn, hx.2⟩
  · rintro ⟨h, n, hn, hx⟩
    exact ⟨n, List.mem_range.2 hn, filN_mem.2 ⟨h, hx⟩⟩

def OwnN (w w' : World) (v : Value) (l : List Nat) : Prop := Hp w w' [.own 3 1 v l.length (natsV l)]
def KIn (w : World) (v : Value) (l : List Int) (k i : Nat) (env' : Env) (w' : World) : Prop := env' 0 = v ∧ env' 4 = .int .i64 (k + 1 : Nat) ∧ ∃ v', env' 3 = v' ∧ OwnN w w' v' (rkN l k ++ filN l k i)
def KOut (w : World) (v : Value) (l : List Int) (k : Nat) (env' : Env) (w' : World) : Prop := env' 0 = v ∧ env' 4 = .int .i64 (k + 1 : Nat) ∧ ∃ v', env' 3 = v' ∧ OwnN w w' v' (rkN l k)

set_option maxHeartbeats 4000000 in
theorem ranked_c {G : Nat → Prop} {w : World} {v : Value} {l : List Int} (hr : Rd G w v l.length (intsV l)) (hl : l.length ≤ 1000000) :
    Calls Try.prog 39 [v].toArray w (Ret fun r w' => OwnN w w' r (rkN l 24)) := by
  refine F_sound c39 (by simp [fc39]) ?_
  obtain ⟨hS, hSL⟩ := hr.sl
  have hM : maxLen = 9223372036854775807 := rfl
  simp [fc39, s39]
  have H : Hp w w [.own 3 1 (.slice none 0 0) 0 []] := (Hp.nil w).nilS
  refine for_r 24 (KOut w v l) ?_ ?_ ?_
  · exact ⟨by simp, by simp, _, by simp, H⟩
  · rintro k env w1 hk ⟨e0, e4, ve, e3, H⟩
    have wk : IntKind.i64.wrap (((k + 1 : Nat) : Int) + 1) = ((k + 1 + 1 : Nat) : Int) := by rw [wI (by omega) (by omega)]; omega
    simp [e4, -Int.natCast_add]
    refine ite_r (t := true) (by simp; omega) (fun _ => ?_) (fun h => by cases h)
    simp [wp_blk, e0, hS, hSL, -Int.natCast_add]
    refine for_r l.length (fun i env' w' => env' 11 = v ∧ env' 12 = .int .i64 l.length ∧ env' 13 = .int .i64 i ∧ KIn w v l k i env' w') ?_ ?_ ?_
    · exact ⟨by simp, by simp, by simp, by simp [e0], by simp [e4, -Int.natCast_add], ve, by simp [e3], by simpa [filN] using H⟩
    · rintro i env w2 hi ⟨e11, e12, e13, e0, e4, ve, e3, H⟩
      have wi : IntKind.i64.wrap ((i : Int) + 1) = ((i + 1 : Nat) : Int) := by rw [wI (by omega) (by omega)]; omega
      have cf := (hr.at H.mod).gi i hi
      have pf := hr.some (by omega)
      have hb := rkN_le l k
      have hb2 := filN_le l k i
      have hb3 : k * l.length ≤ 23 * l.length := Nat.mul_le_mul_right _ (by omega)
      have hal : (rkN l k ++ filN l k i).length ≤ 24000000 := by rw [List.length_append]; omega
      have hsn := filN_snoc l k i
      simp [e12, e13]
      refine ite_r (t := true) (by simp [hi]) (fun _ => ?_) (fun h => by cases h)
      simp [wp_blk, e4, e11, e13, hS, hSL, pf, cf, hi, -Int.natCast_add]
      by_cases he : gi l i = ((k + 1 : Nat) : Int)
      · refine ite_r (t := true) (by simp [he, -Int.natCast_add]) (fun _ => ?_) (fun h => by cases h)
        simp
        refine app1_h slTI 0 H rfl (u := .int .i64 i) rfl (by omega) (by omega) (by simp) (by simp [e3]) (by simp) (fun _ _ => trivial) ?_
        intro vb v' w5 w6 H
        refine ⟨.inl rfl, ?_⟩
        simp [e13, wi, -Int.natCast_add]
        refine ⟨by simp [e11], by simp [e12], by simp, by simp [e0], by simp [e4, -Int.natCast_add], v', by simp, ?_⟩
        rw [if_pos he] at hsn
        rw [natsV_snoc] at H
        unfold OwnN
        rw [hsn, ← List.append_assoc, List.length_append]
        exact H
      · refine ite_r (t := false) (by simp [he, -Int.natCast_add]) (fun h => by cases h) (fun _ => ?_)
        simp [e13, wi, -Int.natCast_add]
        rw [if_neg he, List.append_nil] at hsn
        exact ⟨by simp [e11], by simp [e12], by simp, by simp [e0], by simp [e4, -Int.natCast_add], ve, by simp [e3], by rw [hsn]; exact H⟩
    · rintro env w2 ⟨e11, e12, e13, e0, e4, ve, e3, H⟩
      simp [e12, e13]
      refine ite_r (t := false) (by simp) (fun h => by cases h) (fun _ => ?_)
      simp [e4, wk, -Int.natCast_add]
      exact ⟨by simp [e0], by simp, ve, by simp [e3], by rw [rkN_snoc]; exact H⟩
  · rintro env w1 ⟨e0, e4, ve, e3, H⟩
    simp [e4]
    refine ite_r (t := false) (by simp) (fun h => by cases h) (fun _ => ?_)
    simp [e3]
    exact H

set_option maxHeartbeats 4000000 in
theorem used_c {G : Nat → Prop} {w : World} {v : Value} {l : List Int} (hr : Rd G w v l.length (intsV l)) (hl : l.length ≤ 1000000) :
    Calls Try.prog 40 [v].toArray w (Ret fun r w' => OwnN w w' r (rkN l 24)) := by
  refine F_sound c40 (by simp [fc40]) ?_
  obtain ⟨hS, hSL⟩ := hr.sl
  have hM : maxLen = 9223372036854775807 := rfl
  simp [fc40, s40]
  have H : Hp w w [.own 3 1 (.slice none 0 0) 0 []] := (Hp.nil w).nilS
  refine for_r 24 (KOut w v l) ?_ ?_ ?_
  · exact ⟨by simp, by simp, _, by simp, H⟩
  · rintro k env w1 hk ⟨e0, e4, ve, e3, H⟩
    have wk : IntKind.i64.wrap (((k + 1 : Nat) : Int) + 1) = ((k + 1 + 1 : Nat) : Int) := by rw [wI (by omega) (by omega)]; omega
    simp [e4, -Int.natCast_add]
    refine ite_r (t := true) (by simp; omega) (fun _ => ?_) (fun h => by cases h)
    simp [wp_blk, e0, hS, hSL, -Int.natCast_add]
    refine for_r l.length (fun i env' w' => env' 5 = .int .i64 i ∧ KIn w v l k i env' w') ?_ ?_ ?_
    · exact ⟨by simp, by simp [e0], by simp [e4, -Int.natCast_add], ve, by simp [e3], by simpa [filN] using H⟩
    · rintro i env w2 hi ⟨e5, e0, e4, ve, e3, H⟩
      have wi : IntKind.i64.wrap ((i : Int) + 1) = ((i + 1 : Nat) : Int) := by rw [wI (by omega) (by omega)]; omega
      have cf := (hr.at H.mod).gi i hi
      have pf := hr.some (by omega)
      have hb := rkN_le l k
      have hb2 := filN_le l k i
      have hb3 : k * l.length ≤ 23 * l.length := Nat.mul_le_mul_right _ (by omega)
      have hal : (rkN l k ++ filN l k i).length ≤ 24000000 := by rw [List.length_append]; omega
      have hsn := filN_snoc l k i
      simp [e0, e5, hS, hSL]
      refine ite_r (t := true) (by simp [hi]) (fun _ => ?_) (fun h => by cases h)
      simp [wp_blk, e0, e4, e5, hS, hSL, pf, cf, hi, -Int.natCast_add]
      by_cases he : gi l i = ((k + 1 : Nat) : Int)
      · refine ite_r (t := true) (by simp [he, -Int.natCast_add]) (fun _ => ?_) (fun h => by cases h)
        simp
        refine app1_h slTI 0 H rfl (u := .int .i64 i) rfl (by omega) (by omega) (by simp [e5]) (by simp [e3]) (by simp) (fun _ _ => trivial) ?_
        intro vb v' w5 w6 H
        refine ⟨.inl rfl, ?_⟩
        simp [e5, wi, -Int.natCast_add]
        refine ⟨by simp, by simp [e0], by simp [e4, -Int.natCast_add], v', by simp, ?_⟩
        rw [if_pos he] at hsn
        rw [natsV_snoc] at H
        unfold OwnN
        rw [hsn, ← List.append_assoc, List.length_append]
        exact H
      · refine ite_r (t := false) (by simp [he, -Int.natCast_add]) (fun h => by cases h) (fun _ => ?_)
        simp [e5, wi, -Int.natCast_add]
        rw [if_neg he, List.append_nil] at hsn
        exact ⟨by simp, by simp [e0], by simp [e4, -Int.natCast_add], ve, by simp [e3], by rw [hsn]; exact H⟩
    · rintro env w2 ⟨e5, e0, e4, ve, e3, H⟩
      simp [e0, e5, hS, hSL]
      refine ite_r (t := false) (by simp) (fun h => by cases h) (fun _ => ?_)
      simp [e4, wk, -Int.natCast_add]
      exact ⟨by simp [e0], by simp, ve, by simp [e3], by rw [rkN_snoc]; exact H⟩
  · rintro env w1 ⟨e0, e4, ve, e3, H⟩
    simp [e4]
    refine ite_r (t := false) (by simp) (fun h => by cases h) (fun _ => ?_)
    simp [e3]
    exact H

end Go.Proofs.Ytgjnfajdejkkjaa.VG
