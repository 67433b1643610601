/-
  The program's order of rows of elements: what 'less' tells, and what the sort leaves.
-/
import Derived.Test.YtgjnfajdejkkjaaQa
namespace Go.Proofs.Ytgjnfajdejkkjaa.VG
open Go
set_option linter.unusedSimpArgs false
set_option linter.unusedVariables false
set_option maxRecDepth 20000

section
variable {P : Program} {Q : Exit → Env → World → Prop} {env : Env} {w W : World} {k : S}
theorem fn_r {x : Option Nat} {g : Nat} {c : Operand} {ty : TypeId} {m : List (Nat × E)} {pr : List PrE} (v : Value) (hv : rhoOf m env w c = v)
    (hk : (pr = [] ∨ promsOk pr env w w) ∧ k.wp P Q (updo env x (.func (.func g) #[] #[v])) w) : (S.op x (.makeFunc (.func g) #[] #[c]) ty m pr k).wp P Q env w := by
  show uponK P _ ((execOp (rhoOf m env w) (opOf (.makeFunc (.func g) #[] #[c]) ty)).run P w)
  have : (execOp (rhoOf m env w) (opOf (.makeFunc (.func g) #[] #[c]) ty)).run P w = .ok (.value (.func (.func g) #[] #[v])) w := by
    simp only [execOp, opOf, Instr.makeFunc, run_bind, run_pure, hv, List.map_toArray, List.map_cons, List.map_nil]
  rw [this]
  refine ⟨?_, hk.2⟩
  rcases hk.1 with rfl | h
  · trivial
  · exact h
theorem if_r {x : Option Nat} {t e : TypeId} (ht : P.underlying t = some (.slice e)) {c : Operand} {ty : TypeId} {m : List (Nat × E)} {pr : List PrE} (v : Value) (hv : rhoOf m env w c = v)
    (hk : (pr = [] ∨ promsOk pr env w w) ∧ k.wp P Q (updo env x (.iface t v)) w) : (S.op x (.makeInterface t c) ty m pr k).wp P Q env w := by
  show uponK P _ ((execOp (rhoOf m env w) (opOf (.makeInterface t c) ty)).run P w)
  have : (execOp (rhoOf m env w) (opOf (.makeInterface t c) ty)).run P w = .ok (.value (.iface t v)) w := by
    simp only [execOp, opOf, Instr.makeInterface, run_bind, run_pure, hv, run_underlying ht]
  rw [this]
  refine ⟨?_, hk.2⟩
  rcases hk.1 with rfl | h
  · trivial
  · exact h
end

/-- An element: its block, its weight, its symbol; the block of its pair and the numbers of the two. -/
structure Nd where
  b : Nat
  wt : Int
  sy : Int
  pr : Option (Value × Nat × Nat)
def ndG (S : List Nd) (i : Nat) : Nd := (S[i]?).getD (S.headD ⟨0, 0, 0, none⟩)
def ndP (S : List Nd) (i : Nat) : Value := .pointer (some ⟨(ndG S i).b, 0, none⟩)
def ltW (S : List Nd) (i j : Nat) : Bool := decide ((ndG S i).wt < (ndG S j).wt)

set_option maxHeartbeats 2000000 in
theorem less_c {w : World} {S : List Nd} {B blk n c : Nat} {r : Nat → Nat} (hB : w.cell? ⟨B, 0, none⟩ = some (.slice (some ⟨blk, 0, none⟩) n c)) (hc : ∀ t, t < n → w.cell? ⟨blk, t, none⟩ = some (ndP S (r t)))
    (hN : ∀ i, w.cell? ⟨(ndG S i).b, 0, none⟩ = some (.int .i64 (ndG S i).wt)) (i j : Nat) (hi : i < n) (hj : j < n) :
    Calls Try.prog 53 [.int .i64 i, .int .i64 j, .pointer (some ⟨B, 0, none⟩)].toArray w (Ret fun v w' => v = .bool (ltW S (r i) (r j)) ∧ w' = w.drew) := by
  refine F_sound c53 (by simp [fc53]) ?_
  have ci := hc i hi
  have cj := hc j hj
  have ni := hN (r i)
  have nj := hN (r j)
  unfold ndP at ci cj
  simp [fc53, s53, wp_draw, hB, ci, cj, ni, nj, hi, hj, ltW]


noncomputable def siT : TypeInfo := (Try.prog.info? 60).get (by kernel_rfl)
noncomputable def siE : TypeInfo := (Try.prog.info? 61).get (by kernel_rfl)
theorem siK (n : Nat) (h2 : 2 ≤ n) : Lib.swapperK n siE 22 = 3 := by
  have a : siE.hasPointers = true := by kernel_rfl
  have b : siE.bytes = 8 := by kernel_rfl
  have c : (n == 0) = false := by simp; omega
  have d : (n == 1) = false := by simp; omega
  simp [Lib.swapperK, a, b, c, d]

theorem srt_small (lt : Nat → Nat → Bool) : ∀ l : List Nat, l.length ≤ 1 → srt lt l = l
  | [], _ => rfl
  | [x], _ => rfl
  | _ :: _ :: _, h => by simp at h

theorem cell_sorted {w : World} {S : List Nd} {g m : Nat} {os : Array Obj} {d dk : Array Nat} (hg : g < w.heap.size) (hH : Sort.Holds (ndP S) w g 0 d) (hs : dk.size = d.size) :
    (∀ t, t < d.size → (sortWorld (ndP S) w g 0 m dk os).cell? ⟨g, t, none⟩ = some (ndP S dk[t]!)) ∧ (∀ B o, B < w.heap.size → B ≠ g → (sortWorld (ndP S) w g 0 m dk os).cell? ⟨B, o, none⟩ = w.cell? ⟨B, o, none⟩) := by
  have e : sortWorld (ndP S) w g 0 m dk os = Sort.putRow (ndP S) (Sort.grow (Sort.ahead w m) os) g 0 dk := by
    unfold sortWorld; rw [Sort.putRow_grow _ (Sort.ahead w m) _ g 0 _ hg]
  have hHg : Sort.Holds (ndP S) (Sort.grow (Sort.ahead w m) os) g 0 d := Go.Sort.holds_grow _ _ _ g 0 d hg (Sort.holds_ahead _ _ _ _ _ _ hH)
  refine ⟨fun t ht => ?_, fun B o hB hne => ?_⟩
  · rw [e]
    have := Sort.cell?_putRow _ _ g 0 d dk hHg hs t (by omega)
    rwa [Nat.zero_add] at this
  · rw [e, Sort.cell?_putRow_other _ _ g 0 dk _ (Or.inl hne), Sort.cell?_grow _ _ _ hB]
    rfl

set_option maxHeartbeats 2000000 in
theorem stable_c {w : World} {S : List Nd} {B g c : Nat} {r : List Nat} (hg : g < w.heap.size) (hH : Sort.Holds (ndP S) w g 0 r.toArray) (h20 : r.length ≤ 20)
    (hB : w.cell? ⟨B, 0, none⟩ = some (.slice (some ⟨g, 0, none⟩) r.length c)) (hBg : B < w.heap.size ∧ B ≠ g) (hN : ∀ i, w.cell? ⟨(ndG S i).b, 0, none⟩ = some (.int .i64 (ndG S i).wt) ∧ (ndG S i).b < w.heap.size ∧ (ndG S i).b ≠ g) :
    Calls Try.prog 52 [.iface 60 (.slice (some ⟨g, 0, none⟩) r.length c), .func (.func 53) #[] #[.pointer (some ⟨B, 0, none⟩)]].toArray w
      (Ret fun x w' => x = .tuple #[] ∧ ∃ n os, w' = Sort.grow (Sort.putRow (ndP S) (Sort.ahead w n) g 0 (srt (ltW S) r).toArray) os) := by
  by_cases h2 : 2 ≤ r.length
  · have hless : LessReads Try.prog 53 #[.pointer (some ⟨B, 0, none⟩)] (ndP S) (ltW S) g 0 r.toArray.size w := by
      intro m os dk hs i j hi hj
      obtain ⟨h1, h3⟩ := cell_sorted (m := m) (os := os) (dk := dk) hg hH hs
      refine (less_c (w := sortWorld (ndP S) w g 0 m dk os) (S := S) (B := B) (blk := g) (n := r.length) (c := c) (r := fun t => dk[t]!) ?_ ?_ ?_ i j (by simpa using hi) (by simpa using hj)).mono ?_
      · rw [h3 B 0 hBg.1 hBg.2]; exact hB
      · exact fun t ht => h1 t (by simpa using ht)
      · exact fun i => by rw [h3 _ 0 (hN i).2.1 (hN i).2.2]; exact (hN i).1
      · rintro e w' ⟨v, rfl, rfl, rfl⟩
        exact ⟨rfl, 1, rfl⟩
    have hS := Any.sort_SliceStable_small sl8 60 61 siT siE (by kernel_rfl) (by kernel_rfl) (by kernel_rfl) (by kernel_rfl) 22 (fun _ => by kernel_rfl) (by kernel_rfl) (fun _ => by kernel_rfl) (ndP S) (fun _ => rfl) (ltW S) 53 #[.pointer (some ⟨B, 0, none⟩)]
      (enters_of Try.func53 (by kernel_rfl) rfl) g 0 c r.toArray (by simpa using h2) (by simpa using h20) 61 (by rw [siK _ (by simpa using h2)]; kernel_rfl) true
      (fun args W => run_callFunc_extern Try.func61 (by kernel_rfl) (by kernel_rfl) (by kernel_rfl) (e := Extern.ReflectliteSwapper.swap true) (by kernel_rfl) args W) _ hless hH hg
    refine Calls.mono hS ?_
    rintro e w' ⟨rfl, n, os, rfl⟩
    refine ⟨_, rfl, rfl, n, os, ?_⟩
    rw [insertionSort_list (ltW S) r _ (by simp)]
  · have hS := Any.sort_SliceStable_tiny sl8 60 61 siT siE (by kernel_rfl) (by kernel_rfl) (by kernel_rfl) (by kernel_rfl) 22 (fun _ => by kernel_rfl) (some ⟨g, 0, none⟩) r.length c (by omega)
      (if r.length = 0 then 59 else 60) (by
        rcases Nat.lt_or_ge r.length 1 with h | h
        · rw [show r.length = 0 by omega]; kernel_rfl
        · rw [show r.length = 1 by omega]; kernel_rfl) (.func 53) #[] #[.pointer (some ⟨B, 0, none⟩)] w
    refine Calls.mono hS ?_
    rintro e w' ⟨rfl, os, rfl⟩
    refine ⟨_, rfl, rfl, 0, os, ?_⟩
    rw [srt_small _ _ (by omega), Sort.ahead_zero, Sort.putRow_self _ _ _ _ _ hH]


theorem holds_nd {w : World} {S : List Nd} {g : Nat} {cur : Array Value} {e : TypeId} {r : List Nat} (hb : w.heap[g]? = some (.cells cur e (0, 0))) (ht : cur.toList.take r.length = r.map (ndP S)) : Sort.Holds (ndP S) w g 0 r.toArray := by
  intro j hj
  have hj' : j < r.length := by simpa using hj
  refine ⟨?_, by simp [World.frozen?, hb]⟩
  have h1 : (cur.toList.take r.length)[j]? = (r.map (ndP S))[j]? := by rw [ht]
  rw [List.getElem?_take_of_lt hj'] at h1
  simp only [World.cell?, hb, Nat.zero_add]
  simp only [Option.isSome_none, Bool.false_eq_true, if_false]
  rw [← Array.getElem?_toList, h1]
  simp [hj']
theorem heap_nd {w : World} {S : List Nd} {g n : Nat} {os : Array Obj} {cur : Array Value} {e : TypeId} {fr : Nat × Nat} (d : Array Nat) (hb : w.heap[g]? = some (.cells cur e fr)) :
    (Sort.grow (Sort.putRow (ndP S) (Sort.ahead w n) g 0 d) os).heap[g]? = some (.cells (Sort.putCells (ndP S) 0 d cur) e fr) := by
  have hg : g < w.heap.size := (Array.getElem?_eq_some_iff.1 hb).1
  rw [Sort.heap_grow_old _ _ (by simpa using hg)]
  simp [Sort.putRow, Sort.mapBlock, Sort.ahead, Array.getElem?_modify, hb, Sort.onCells]
theorem mod_nd {w : World} {S : List Nd} {g n : Nat} {os : Array Obj} (d : Array Nat) : Mod (fun k => k = g) w (Sort.grow (Sort.putRow (ndP S) (Sort.ahead w n) g 0 d) os) := by
  refine ⟨rfl, rfl, rfl, by simp, fun k hk hne => ?_⟩
  rw [Sort.heap_grow_old _ _ (by simpa using hk)]
  have : g ≠ k := fun e => hne e.symm
  simp [Sort.putRow, Sort.mapBlock, Sort.ahead, Array.getElem?_modify, this]
theorem take_nd {S : List Nd} (cur : Array Value) (ts : List Nat) (h : ts.length ≤ cur.size) : (Sort.putCells (ndP S) 0 ts.toArray cur).toList.take ts.length = ts.map (ndP S) := by
  apply List.ext_getElem?
  intro j
  by_cases hj : j < ts.length
  · rw [List.getElem?_take_of_lt hj, Array.getElem?_toList]
    simp [Sort.putCells, hj, show j < cur.size by omega]
  · rw [List.getElem?_take_eq_none (by omega), List.getElem?_eq_none (by simp; omega)]

set_option maxHeartbeats 2000000 in
theorem order_c {w : World} {v : Value} {S : List Nd} {r : List Nat} (h0 : r ≠ []) (hr : w.ownsRow 0 61 1 v r.length (r.map (ndP S))) (h20 : r.length ≤ 20)
    (hN : ∀ i, w.cell? ⟨(ndG S i).b, 0, none⟩ = some (.int .i64 (ndG S i).wt) ∧ (ndG S i).b < w.heap.size ∧ v.ownBlock ≠ some (ndG S i).b) :
    Calls Try.prog 34 [v].toArray w (Ret fun x w' => x = .tuple #[] ∧ w'.ownsRow 0 61 1 v r.length ((srt (ltW S) r).map (ndP S)) ∧ Mod (fun k => v.ownBlock = some k) w w') := by
  refine F_sound c34 (by simp [fc34]) ?_
  have hl := hr.1
  rcases hr.2 with ⟨rfl, hh⟩ | ⟨g, cap, cur, rfl, _, hgg, h1, h2, h3, h4⟩
  · exact absurd (List.length_eq_zero_iff.1 hh) h0
  have hg := heap_lt hgg
  simp [fc34, s34]
  refine box_r (.slice (some ⟨g, 0, none⟩) r.length cap) (by simp) ?_
  rintro b w1 rfl hb M1 hsz
  refine ⟨trivial, ?_⟩
  have hbc : w1.cell? ⟨w.heap.size, 0, none⟩ = some (.slice (some ⟨g, 0, none⟩) r.length cap) := by rw [cell_blk hb 0]; rfl
  simp [hbc]
  refine if_r Try.underlying60 (.slice (some ⟨g, 0, none⟩) r.length cap) (by simp) ⟨.inl rfl, ?_⟩
  refine fn_r (.pointer (some ⟨w.heap.size, 0, none⟩)) (by simp) ⟨.inl rfl, ?_⟩
  have hg1 := M1.heap hgg (fun h => h)
  have hH := holds_nd (S := S) (r := r) hg1 (by simpa using h4)
  refine call_h (stable_c (S := S) (B := w.heap.size) (c := cap) (by rw [hsz]; omega) hH h20 hbc ⟨by rw [hsz]; omega, by omega⟩ fun i => ?_) (by simp) ?_
  · obtain ⟨n1, n2, n3⟩ := hN i
    exact ⟨M1.cell n1 (fun h => h), by rw [hsz]; omega, fun e => n3 (by simp [Value.ownBlock, e])⟩
  rintro x w2 ⟨rfl, n, os, rfl⟩
  simp
  have hlen := srt_length (ltW S) r
  refine ⟨⟨by simp [hlen], .inr ⟨g, cap, _, rfl, Nat.zero_le _, heap_nd _ hg1, h1, h2, by simpa [Sort.putCells] using h3, ?_⟩⟩, (M1.mono (fun _ _ h => h.elim)).tr ((mod_nd _).mono ?_)⟩
  · rw [Nat.mul_one, ← hlen]
    exact take_nd cur _ (by omega)
  · rintro k _ rfl
    simp [Value.ownBlock]

end Go.Proofs.Ytgjnfajdejkkjaa.VG
