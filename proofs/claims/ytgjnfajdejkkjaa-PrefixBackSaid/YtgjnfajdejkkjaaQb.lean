/-
  The program's order of rows of elements: what 'less' tells, and what the sort leaves.
-/
import Derived.Test.YtgjnfajdejkkjaaQa
namespace Go.Proofs.Ytgjnfajdejkkjaa.VG
open Go
set_option linter.unusedSimpArgs false
set_option linter.unusedVariables false
set_option maxRecDepth 20000

section
variable {P : Program} {Q : Exit → Env → World → Prop} {env : Env} {w W : World} {k : S}
theorem fn_r {x : Option Nat} {g : Nat} {c : Operand} {ty : TypeId} {m : List (Nat × E)} {pr : List PrE} (v : Value) (hv : rhoOf m env w c = v)
    (hk : (pr = [] ∨ promsOk pr env w w) ∧ k.wp P Q (updo env x (.func (.func g) #[] #[v])) w) : (S.op x (.makeFunc (.func g) #[] #[c]) ty m pr k).wp P Q env w := by
  show uponK P _ ((execOp (rhoOf m env w) (opOf (.makeFunc (.func g) #[] #[c]) ty)).run P w)
  have : (execOp (rhoOf m env w) (opOf (.makeFunc (.func g) #[] #[c]) ty)).run P w = .ok (.value (.func (.func g) #[] #[v])) w := by
    simp only [execOp, opOf, Instr.makeFunc, run_bind, run_pure, hv, List.map_toArray, List.map_cons, List.map_nil]
  rw [this]
  refine ⟨?_, hk.2⟩
  rcases hk.1 with rfl | h
  · trivial
  · exact h
theorem if_r {x : Option Nat} {t e : TypeId} (ht : P.underlying t = some (.slice e)) {c : Operand} {ty : TypeId} {m : List (Nat × E)} {pr : List PrE} (v : Value) (hv : rhoOf m env w c = v)
    (hk : (pr = [] ∨ promsOk pr env w w) ∧ k.wp P Q (updo env x (.iface t v)) w) : (S.op x (.makeInterface t c) ty m pr k).wp P Q env w := by
  show uponK P _ ((execOp (rhoOf m env w) (opOf (.makeInterface t c) ty)).run P w)
  have : (execOp (rhoOf m env w) (opOf (.makeInterface t c) ty)).run P w = .ok (.value (.iface t v)) w := by
    simp only [execOp, opOf, Instr.makeInterface, run_bind, run_pure, hv, run_underlying ht]
  rw [this]
  refine ⟨?_, hk.2⟩
  rcases hk.1 with rfl | h
  · trivial
  · exact h
end

/-- An element: its block, its weight, its symbol; the block of its pair and the numbers of the two. -/
structure Nd where
  b : Nat
  wt : Int
  sy : Int
  pr : Option (Value × Nat × Nat)
def ndG (S : List Nd) (i : Nat) : Nd := (S[i]?).getD (S.headD ⟨0, 0, 0, none⟩)
def ndP (S : List Nd) (i : Nat) : Value := .pointer (some ⟨(ndG S i).b, 0, none⟩)
def ltW (S : List Nd) (i j : Nat) : Bool := decide ((ndG S i).wt < (ndG S j).wt)

set_option maxHeartbeats 2000000 in
theorem less_c {w : World} {S : List Nd} {B blk n c : Nat} {r : Nat → Nat} (hB : w.cell? ⟨B, 0, none⟩ = some (.slice (some ⟨blk, 0, none⟩) n c)) (hc : ∀ t, t < n → w.cell? ⟨blk, t, none⟩ = some (ndP S (r t)))
    (hN : ∀ i, w.cell? ⟨(ndG S i).b, 0, none⟩ = some (.int .i64 (ndG S i).wt)) (i j : Nat) (hi : i < n) (hj : j < n) :
    Calls Try.prog 53 [.int .i64 i, .int .i64 j, .pointer (some ⟨B, 0, none⟩)].toArray w (Ret fun v w' => v = .bool (ltW S (r i) (r j)) ∧ w' = w.drew) := by
  refine F_sound c53 (by simp [fc53]) ?_
  have ci := hc i hi
  have cj := hc j hj
  have ni := hN (r i)
  have nj := hN (r j)
  unfold ndP at ci cj
  simp [fc53, s53, wp_draw, hB, ci, cj, ni, nj, hi, hj, ltW]


noncomputable def siT : TypeInfo := (Try.prog.info? 60).get (by kernel_rfl)
noncomputable def siE : TypeInfo := (Try.prog.info? 61).get (by kernel_rfl)
theorem siK (n : Nat) (h2 : 2 ≤ n) : Lib.swapperK n siE 22 = 3 := by
  have a : siE.hasPointers = true := by kernel_rfl
  have b : siE.bytes = 8 := by kernel_rfl
  have c : (n == 0) = false := by simp; omega
  have d : (n == 1) = false := by simp; omega
  simp [Lib.swapperK, a, b, c, d]

theorem srt_small (lt : Nat → Nat → Bool) : ∀ l : List Nat, l.length ≤ 1 → srt lt l = l
  | [], _ => rfl
  | [x], _ => rfl
  | _ :: _ :: _, h => by simp at h

theorem cell_sorted {w : World} {S : List Nd} {g m : Nat} {os : Array Obj} {d dk : Array Nat} (hg : g < w.heap.size) (hH : Sort.Holds (ndP S) w g 0 d) (hs : dk.size = d.size) :
    (∀ t, t < d.size → (sortWorld (ndP S) w g 0 m dk os).cell? ⟨g, t, none⟩ = some (ndP S dk[t]!)) ∧ (∀ B o, B < w.heap.size → B ≠ g → (sortWorld (ndP S) w g 0 m dk os).cell? ⟨B, o, none⟩ = w.cell? ⟨B, o, none⟩) := by
  have e : sortWorld (ndP S) w g 0 m dk os = Sort.putRow (ndP S) (Sort.grow (Sort.ahead w m) os) g 0 dk := by
    unfold sortWorld; rw [Sort.putRow_grow _ (Sort.ahead w m) _ g 0 _ hg]
  have hHg : Sort.Holds (ndP S) (Sort.grow (Sort.ahead w m) os) g 0 d := Go.Sort.holds_grow _ _ _ g 0 d hg (Sort.holds_ahead _ _ _ _ _ _ hH)
  refine ⟨fun t ht => ?_, fun B o hB hne => ?_⟩
  · rw [e]
    have := Sort.cell?_putRow _ _ g 0 d dk hHg hs t (by omega)
    rwa [Nat.zero_add] at this
  · rw [e, Sort.cell?_putRow_other _ _ g 0 dk _ (Or.inl hne), Sort.cell?_grow _ _ _ hB]
    rfl

theorem holds_nd {w : World} {S : List Nd} {g : Nat} {cur : Array Value} {e : TypeId} {r : List Nat} (hb : w.heap[g]? = some (.cells cur e (0, 0))) (ht : cur.toList.take r.length = r.map (ndP S)) : Sort.Holds (ndP S) w g 0 r.toArray := by
  intro j hj
  have hj' : j < r.length := by simpa using hj
  refine ⟨?_, by simp [World.frozen?, hb]⟩
  have h1 : (cur.toList.take r.length)[j]? = (r.map (ndP S))[j]? := by rw [ht]
  rw [List.getElem?_take_of_lt hj'] at h1
  simp only [World.cell?, hb, Nat.zero_add]
  simp only [Option.isSome_none, Bool.false_eq_true, if_false]
  rw [← Array.getElem?_toList, h1]
  simp [hj']
theorem heap_nd {w : World} {S : List Nd} {g n : Nat} {os : Array Obj} {cur : Array Value} {e : TypeId} {fr : Nat × Nat} (d : Array Nat) (hb : w.heap[g]? = some (.cells cur e fr)) :
    (Sort.grow (Sort.putRow (ndP S) (Sort.ahead w n) g 0 d) os).heap[g]? = some (.cells (Sort.putCells (ndP S) 0 d cur) e fr) := by
  have hg : g < w.heap.size := (Array.getElem?_eq_some_iff.1 hb).1
  rw [Sort.heap_grow_old _ _ (by simpa using hg)]
  simp [Sort.putRow, Sort.mapBlock, Sort.ahead, Array.getElem?_modify, hb, Sort.onCells]
theorem mod_nd {w : World} {S : List Nd} {g n : Nat} {os : Array Obj} (d : Array Nat) : Mod (fun k => k = g) w (Sort.grow (Sort.putRow (ndP S) (Sort.ahead w n) g 0 d) os) := by
  refine ⟨rfl, rfl, rfl, by simp, fun k hk hne => ?_⟩
  rw [Sort.heap_grow_old _ _ (by simpa using hk)]
  have : g ≠ k := fun e => hne e.symm
  simp [Sort.putRow, Sort.mapBlock, Sort.ahead, Array.getElem?_modify, this]
theorem take_nd {S : List Nd} (cur : Array Value) (ts : List Nat) (h : ts.length ≤ cur.size) : (Sort.putCells (ndP S) 0 ts.toArray cur).toList.take ts.length = ts.map (ndP S) := by
  apply List.ext_getElem?
  intro j
  by_cases hj : j < ts.length
  · rw [List.getElem?_take_of_lt hj, Array.getElem?_toList]
    simp [Sort.putCells, hj, show j < cur.size by omega]
  · rw [List.getElem?_take_eq_none (by omega), List.getElem?_eq_none (by simp; omega)]


end Go.Proofs.Ytgjnfajdejkkjaa.VG
