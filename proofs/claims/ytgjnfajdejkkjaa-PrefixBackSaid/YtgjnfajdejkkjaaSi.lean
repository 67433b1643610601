/-
  Arguments as they come in: rows and arrays of integers.
-/
import Derived.Test.YtgjnfajdejkkjaaOp
import Derived.Test.YtgjnfajdejkkjaaIr
import Derived.Test.YtgjnfajdejkkjaaHq
import Derived.OpenShut
namespace Go.Proofs.Ytgjnfajdejkkjaa.VG
open Go
set_option linter.unusedSimpArgs false
set_option linter.unusedVariables false
set_option maxRecDepth 20000

theorem agg_s {P : Program} {w : World} {r : Reach} {base : Nat} {t : TypeId} {v : Value} {fs : Array Field} (ht : P.underlying t = some (.struct fs)) (h : Value.okWide P w r base t v) : ∃ cs, v = .agg cs ∧ cs.size = P.cellsOf t := by
  unfold Value.okWide at h
  simp only [ht] at h
  obtain ⟨cs, h1, h2, _⟩ := h
  exact ⟨cs, h1, h2⟩
theorem agg_a {P : Program} {w : World} {r : Reach} {base : Nat} {t e : TypeId} {v : Value} {n : Nat} (ht : P.underlying t = some (.array n e)) (h : Value.okWide P w r base t v) : ∃ cs, v = .agg cs ∧ cs.size = P.cellsOf t := by
  unfold Value.okWide at h
  simp only [ht] at h
  obtain ⟨cs, h1, h2, _⟩ := h
  exact ⟨cs, h1, h2⟩

section
variable {H : Type} {enc : TypeId × Value → H} {P : Program} {w : World} {t e : TypeId} {cs : List Value}

theorem Sees.array {n : Nat} (ht : P.underlying t = some (.array n e)) (h : Sees enc P w t cs) : cs.length = P.cellsOf t ∧ ∀ i, i < n → Sees enc P w e ((cs.drop (i * P.cellsOf e)).take (P.cellsOf e)) := by
  obtain ⟨fuel, y, h⟩ := h
  obtain ⟨xs, m, _, _, hl, hx, hf⟩ := DataW.trod_array ht h
  refine ⟨hl, fun i hi => ⟨m, xs[i]'(by omega), ?_⟩⟩
  rw [hf i hi, List.getElem?_eq_getElem]
theorem Sees.cap {oa : Option Addr} {len cap : Nat} (ht : P.underlying t = some (.slice e)) (h : Sees enc P w t [.slice oa len cap]) : len ≤ cap := by
  obtain ⟨fuel, y, h⟩ := h
  rcases DataW.trod_slice ht h with ⟨h1, _⟩ | ⟨a, len', cap', elems, rest, n, _, h1, _, _, hl, hm, hlen, hel, _, _⟩
  · simp only [List.cons.injEq, Value.slice.injEq, and_true] at h1
    omega
  · simp only [List.cons.injEq, Value.slice.injEq, and_true] at h1
    omega
theorem flat_one {α : Type} (f : α → Value) : ∀ xs : List α, (xs.map fun n => [f n]).flatten = xs.map f
  | [] => rfl
  | x :: r => by simp [flat_one f r]

/-- A row of integers of any kind. -/
theorem row_of {k : IntKind} {a : Option Addr} {len cap : Nat} (ht : P.underlying t = some (.slice e)) (he : P.underlying e = some (.int k)) (hc1 : P.cellsOf e = 1) (h : Sees enc P w t [.slice a len cap]) :
    ∃ l : List Int, l.length = len ∧ len ≤ maxLen ∧ len ≤ cap ∧ Rd (fun b => b < w.heap.size) w (.slice a len cap) len (l.map fun n => .int k n) ∧ ∀ x ∈ l, (Lit.int k x).wf = true := by
  obtain ⟨oa, l, c, heq, hm, ess, h1, h2, h3⟩ := h.slice ht (by rw [hc1]; omega)
  simp only [List.cons.injEq, Value.slice.injEq, and_true] at heq
  obtain ⟨rfl, rfl, rfl⟩ := heq
  obtain ⟨xs, rfl, h4⟩ := pick (f := fun n : Int => [Value.int k n]) (G := fun n => (Lit.int k n).wf = true) ess (fun es hes => by
    obtain ⟨_, hs⟩ := h2 es hes
    exact hs.int he)
  rw [flat_one] at h3
  exact ⟨xs, by simpa using h1, hm, h.cap ht, h3, h4⟩
end

/-- An array of n integers. -/
theorem arr_of {H : Type} {enc : TypeId × Value → H} {P : Program} {w : World} {t e : TypeId} {k : IntKind} {n : Nat} {a : Array Value} (ht : P.underlying t = some (.array n e)) (he : P.underlying e = some (.int k)) (hc1 : P.cellsOf e = 1) (hcn : P.cellsOf t = n) (h : Sees enc P w t a.toList) :
    ∃ l : List Int, l.length = n ∧ a = (l.map fun x => Value.int k x).toArray ∧ ∀ x ∈ l, (Lit.int k x).wf = true := by
  obtain ⟨hl, hf⟩ := h.array ht
  rw [hcn] at hl
  have each : ∀ i, i < n → ∃ x, a.toList[i]? = some (Value.int k x) ∧ (Lit.int k x).wf = true := by
    intro i hi
    have h1 := hf i hi
    rw [hc1, Nat.mul_one] at h1
    obtain ⟨x, hx, hw⟩ := h1.int he
    refine ⟨x, ?_, hw⟩
    have := congrArg (·[0]?) hx
    simpa [List.getElem?_take, List.getElem?_drop] using this
  have all : ∀ m, m ≤ n → ∃ l : List Int, l.length = m ∧ a.toList.take m = l.map (fun x => Value.int k x) ∧ ∀ x ∈ l, (Lit.int k x).wf = true := by
    intro m
    induction m with
    | zero => intro _; exact ⟨[], rfl, by simp, by simp⟩
    | succ m ih =>
      intro hm
      obtain ⟨l, h1, h2, h3⟩ := ih (by omega)
      obtain ⟨x, h4, h5⟩ := each m (by omega)
      refine ⟨l ++ [x], by simp [h1], by rw [List.take_add_one, h2, h4]; simp, ?_⟩
      intro y hy
      rcases List.mem_append.1 hy with hy | hy
      · exact h3 y hy
      · rw [List.mem_singleton] at hy; rw [hy]; exact h5
  obtain ⟨l, h1, h2, h3⟩ := all n (Nat.le_refl _)
  rw [List.take_of_length_le (by omega)] at h2
  exact ⟨l, h1, by rw [← h2], h3⟩

theorem bd64 {l : List Int} (h : ∀ x ∈ l, (Lit.int .i64 x).wf = true) (i : Nat) : -9223372036854775808 ≤ gi l i ∧ gi l i ≤ 9223372036854775807 := by
  by_cases hi : i < l.length
  · exact wf_i64 (h _ (gi_mem l i hi))
  · rw [gi, List.getD_eq_getElem?_getD, List.getElem?_eq_none (by omega)]; simp

/-- A row of ints as it comes in. -/
theorem irow_of {H : Type} {enc : TypeId × Value → H} {w : World} {a : Option Addr} {len cap : Nat} (h : Sees enc Try.prog w 22 [.slice a len cap]) :
    ∃ l : List Int, l.length = len ∧ len ≤ maxLen ∧ Rd (fun b => b < w.heap.size) w (.slice a len cap) len (intsV l) ∧ ∀ x ∈ l, (Lit.int .i64 x).wf = true := by
  obtain ⟨l, h1, h2, _, h4, h5⟩ := row_of (e := 3) (k := .i64) (by kernel_rfl) (by kernel_rfl) (by kernel_rfl) h
  exact ⟨l, h1, h2, h4, h5⟩
end Go.Proofs.Ytgjnfajdejkkjaa.VG
