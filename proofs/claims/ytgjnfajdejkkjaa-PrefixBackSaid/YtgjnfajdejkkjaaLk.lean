/-
  What joins a walk to a law's frame.
-/
import Derived.Test.YtgjnfajdejkkjaaVgN
namespace Go.Proofs.Ytgjnfajdejkkjaa.VG
open Go

theorem law_end {P : Program} {f : FuncId} {args : Array Value} {w : World} (h : Calls P f args w (Ret fun r w' => r = .bool true ∧ Mod none' w w')) :
    Calls P f args w fun e w' => e = .returned (.bool true) ∧ RowKit.Below w.heap.size w w' :=
  h.mono fun e w' ⟨v, he, hv, hm⟩ => ⟨by rw [he, hv], hm.below (fun _ _ h => h)⟩

theorem wf_i64 {a : Int} (h : (Lit.int .i64 a).wf = true) : -9223372036854775808 ≤ a ∧ a ≤ 9223372036854775807 := by
  simpa [Lit.wf, IntKind.min, IntKind.max, IntKind.signed, IntKind.bits] using h
theorem wf_i32 {a : Int} (h : (Lit.int .i32 a).wf = true) : -2147483648 ≤ a ∧ a ≤ 2147483647 := by
  simpa [Lit.wf, IntKind.min, IntKind.max, IntKind.signed, IntKind.bits] using h
theorem wf_u64 {a : Int} (h : (Lit.int .u64 a).wf = true) : ∃ n : Nat, a = n ∧ n < 18446744073709551616 := by
  have : 0 ≤ a ∧ a ≤ 18446744073709551615 := by simpa [Lit.wf, IntKind.min, IntKind.max, IntKind.signed, IntKind.bits] using h
  exact ⟨a.toNat, by omega, by omega⟩
theorem wf_u8 {a : Int} (h : (Lit.int .u8 a).wf = true) : ∃ n : Nat, a = n ∧ n < 256 := by
  have : 0 ≤ a ∧ a ≤ 255 := by simpa [Lit.wf, IntKind.min, IntKind.max, IntKind.signed, IntKind.bits] using h
  exact ⟨a.toNat, by omega, by omega⟩

/-- A slice that came in, as a reading. -/
theorem Rd.of_row {k : IntKind} {w : World} {a : Option Addr} {len cap : Nat} {zs : List Int}
    (h : (a = none ∧ len = 0 ∧ cap = 0 ∧ zs = []) ∨ ∃ x, a = some x ∧ len ≤ cap ∧ cap ≤ maxLen ∧ zs.length = cap ∧ (∀ i, i < zs.length → w.cell? (x.add i) = some (.int k (zs.getD i 0))) ∧ ∀ n ∈ zs, (Lit.int k n).wf = true) :
    Rd (fun b => b < w.heap.size) w (.slice a len cap) len ((zs.take len).map (Value.int k)) ∧ (zs.take len).length = len ∧ (∀ n ∈ zs.take len, (Lit.int k n).wf = true) ∧ len ≤ maxLen := by
  rcases h with ⟨rfl, rfl, rfl, rfl⟩ | ⟨x, rfl, hl, hm, hz, hc, hw⟩
  · exact ⟨Rd.nil _ _ _, rfl, by simp, by omega⟩
  · have hcell : ∀ j u, ((zs.take len).map (Value.int k))[j]? = some u → w.cell? (x.add j) = some u := by
      intro j u hj
      have h1 := (List.getElem?_eq_some_iff.1 hj).1
      simp only [List.length_map, List.length_take] at h1
      have hj2 : j < zs.length := by omega
      rw [hc j hj2]
      simp only [List.getElem?_map, List.getElem?_take_of_lt (show j < len by omega), List.getElem?_eq_getElem hj2, Option.map_some, Option.some.injEq] at hj
      rw [List.getD_eq_getElem?_getD, List.getElem?_eq_getElem hj2, Option.getD_some, hj]
    refine ⟨⟨⟨cap, rfl⟩, fun hp => ⟨rfl, ?_⟩, hcell⟩, by simp; omega, fun n hn => hw n (List.mem_of_mem_take hn), by omega⟩
    simp only [List.length_map, List.length_take] at hp
    have h0 := hcell 0 (.int k (zs.getD 0 0)) (by
      rw [List.getElem?_map, List.getElem?_take_of_lt (by omega), List.getD_eq_getElem?_getD, List.getElem?_eq_getElem (show 0 < zs.length by omega)]; rfl)
    rw [add_zero] at h0
    exact World.block_lt_of_cell? w _ h0
end Go.Proofs.Ytgjnfajdejkkjaa.VG
