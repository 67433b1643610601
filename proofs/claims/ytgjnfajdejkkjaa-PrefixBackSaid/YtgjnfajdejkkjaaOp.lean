/-
  What a walk is told of arguments of any shape: their cells, as the frame's reading finds them.
-/
import Derived.Test.YtgjnfajdejkkjaaLk
import Derived.ChangeArms
import Derived.ChangeSlices
namespace Go.Proofs.Ytgjnfajdejkkjaa.VG
open Go
set_option linter.unusedSimpArgs false
set_option linter.unusedVariables false
set_option maxRecDepth 20000

/-- The cells cs read as a value of type t. -/
def Sees {H : Type} (enc : TypeId × Value → H) (P : Program) (w : World) (t : TypeId) (cs : List Value) : Prop := ∃ fuel y, DataW.trod enc P w 0 (fun _ => true) true fuel t cs = some y

section
variable {H : Type} {enc : TypeId × Value → H} {P : Program} {w : World} {t e : TypeId} {cs : List Value}

theorem Sees.of {v : Value} {d : DataW H} {ps : List MemPlace} (h : DataW.Trod enc P w 0 (fun _ => true) true t v d ps) : Sees enc P w t v.cells.toList := by
  obtain ⟨fuel, h⟩ := h
  exact ⟨fuel, _, h⟩
theorem Sees.int {k : IntKind} (ht : P.underlying t = some (.int k)) (h : Sees enc P w t cs) : ∃ n, cs = [.int k n] ∧ (Lit.int k n).wf = true := by
  obtain ⟨fuel, y, h⟩ := h
  obtain ⟨n, h1, _, h2⟩ := DataW.trod_int ht h
  exact ⟨n, h1, h2⟩
theorem Sees.bool (ht : P.underlying t = some .bool) (h : Sees enc P w t cs) : ∃ b, cs = [.bool b] := by
  obtain ⟨fuel, y, h⟩ := h
  obtain ⟨b, h1, _⟩ := DataW.trod_bool ht h
  exact ⟨b, h1⟩
theorem Sees.string (ht : P.underlying t = some .string) (h : Sees enc P w t cs) : ∃ s : ByteArray, cs = [.string s] ∧ s.size ≤ maxLen := by
  obtain ⟨fuel, y, h⟩ := h
  obtain ⟨s, h1, _, h2⟩ := DataW.trod_string ht h
  exact ⟨s, h1, h2⟩
theorem Sees.struct {fs : Array Field} (ht : P.underlying t = some (.struct fs)) (h : Sees enc P w t cs) : cs.length = P.cellsOf t ∧ ∀ (i : Nat) (f : Field), fs[i]? = some f → Sees enc P w f.type ((cs.drop f.offset).take (P.cellsOf f.type)) := by
  obtain ⟨fuel, y, h⟩ := h
  obtain ⟨xs, n, _, _, hl, hx, hf⟩ := DataW.trod_struct ht h
  refine ⟨hl, fun i f hi => ⟨n, xs[i]'?_, ?_⟩⟩
  · rw [hx]; exact (Array.getElem?_eq_some_iff.1 hi).1
  · rw [hf i f hi, List.getElem?_eq_getElem]
theorem Sees.slice (ht : P.underlying t = some (.slice e)) (hc : 0 < P.cellsOf e) (h : Sees enc P w t cs) :
    ∃ oa len cap, cs = [.slice oa len cap] ∧ len ≤ maxLen ∧ ∃ ess : List (List Value), ess.length = len ∧ (∀ es ∈ ess, es.length = P.cellsOf e ∧ Sees enc P w e es) ∧ Rd (fun b => b < w.heap.size) w (.slice oa len cap) len ess.flatten := by
  obtain ⟨fuel, y, h⟩ := h
  rcases DataW.trod_slice ht h with ⟨rfl, _⟩ | ⟨a, len, cap, elems, rest, n, _, rfl, _, _, hl, hm, hlen, hel, _, _⟩
  · exact ⟨none, 0, 0, rfl, by omega, [], rfl, by simp, Rd.nil _ _ _⟩
  have each : ∀ i, i < len → ∃ es, w.cells? 0 (a.add (i * P.cellsOf e)) (P.cellsOf e) = some es ∧ Sees enc P w e es := by
    intro i hi
    have := hel i hi
    rw [List.getElem?_eq_getElem (by omega), Option.bind_eq_some_iff] at this
    obtain ⟨es, h1, h2⟩ := this
    exact ⟨es, h1, n, _, h2⟩
  have all : ∀ k, k ≤ len → ∃ ess : List (List Value), ess.length = k ∧ (∀ es ∈ ess, es.length = P.cellsOf e ∧ Sees enc P w e es) ∧ ∀ j u, ess.flatten[j]? = some u → w.cell? (a.add j) = some u := by
    intro k
    induction k with
    | zero => intro _; exact ⟨[], rfl, by simp, by simp⟩
    | succ k ih =>
      intro hk
      obtain ⟨ess, h1, h2, h3⟩ := ih (by omega)
      obtain ⟨es, h4, h5⟩ := each k (by omega)
      obtain ⟨_, h6, h7⟩ := World.cells?_some h4
      have hfl : ∀ l : List (List Value), (∀ es ∈ l, es.length = P.cellsOf e) → l.flatten.length = l.length * P.cellsOf e := by
        intro l
        induction l with
        | nil => intro _; simp
        | cons x r ihl => intro hx; rw [List.flatten_cons, List.length_append, hx x (by simp), ihl (fun y hy => hx y (by simp [hy])), List.length_cons, Nat.add_mul]; omega
      refine ⟨ess ++ [es], by simp [h1], ?_, ?_⟩
      · intro x hx
        rcases List.mem_append.1 hx with hx | hx
        · exact h2 x hx
        · rw [List.mem_singleton] at hx; subst hx; exact ⟨h6, h5⟩
      · intro j u hj
        simp only [List.flatten_append, List.flatten_cons, List.flatten_nil, List.append_nil] at hj
        have hlf := hfl ess (fun x hx => (h2 x hx).1)
        rw [h1] at hlf
        by_cases hjk : j < k * P.cellsOf e
        · rw [List.getElem?_append_left (by omega)] at hj
          exact h3 j u hj
        · rw [List.getElem?_append_right (by omega), hlf] at hj
          have hlt := (List.getElem?_eq_some_iff.1 hj).1
          have h8 := h7 (j - k * P.cellsOf e) (by omega)
          rw [add_add, show k * P.cellsOf e + (j - k * P.cellsOf e) = j by omega] at h8
          rw [h8]
          exact hj
  obtain ⟨ess, h1, h2, h3⟩ := all len (Nat.le_refl _)
  refine ⟨some a, len, cap, rfl, by omega, ess, h1, h2, ⟨cap, rfl⟩, fun hp => ⟨rfl, ?_⟩, h3⟩
  have := h3 0 _ (List.getElem?_eq_getElem hp)
  rw [add_zero] at this
  exact World.block_lt_of_cell? w _ this

theorem pick {α : Type} {f : α → List Value} {G : α → Prop} : ∀ (ess : List (List Value)), (∀ es ∈ ess, ∃ a, es = f a ∧ G a) → ∃ as : List α, ess = as.map f ∧ ∀ a ∈ as, G a
  | [], _ => ⟨[], rfl, by simp⟩
  | x :: r, h => by
    obtain ⟨a, h1, h2⟩ := h x (by simp)
    obtain ⟨as, h3, h4⟩ := pick r (fun es hes => h es (by simp [hes]))
    exact ⟨a :: as, by rw [h1, h3]; rfl, fun b hb => by
      rcases List.mem_cons.1 hb with rfl | hb
      · exact h2
      · exact h4 b hb⟩
end
end Go.Proofs.Ytgjnfajdejkkjaa.VG
