/-
  The library's stable sort, over a 'less' and a 'swap' by their contracts: what is asked, the two calls.
-/
import Derived.Test.YtgjnfajdejkkjaaQb
import Derived.Test.YtgjnfajdejkkjaaWa
namespace Go.Proofs.Ytgjnfajdejkkjaa.VG
open Go
set_option linter.unusedSimpArgs false
set_option linter.unusedVariables false
set_option maxRecDepth 20000

section
variable {P : Program} {Q : Exit → Env → World → Prop} {env : Env} {w W : World} {k : S}
theorem dyn_r {x : Option Nat} {g : Nat} {lb : Array Value} {c a1 a2 : Operand} {v1 v2 : Value} {tys : Array TypeId} {ty : TypeId} {m : List (Nat × E)} {pr : List PrE} (hc : rhoOf m env w c = .func (.func g) #[] lb) (h1 : rhoOf m env w a1 = v1) (h2 : rhoOf m env w a2 = v2)
    (hk : uponK P (fun v w' => promsOk pr env w w' ∧ k.wp P Q (updo env x v) w') ((callFunc g (#[v1, v2] ++ lb)).run P w)) : (S.op x (.call ⟨.value c, #[a1, a2], tys⟩) ty m pr k).wp P Q env w := by
  show uponK P _ ((execOp (rhoOf m env w) (opOf (.call ⟨.value c, #[a1, a2], tys⟩) ty)).run P w)
  have : (execOp (rhoOf m env w) (opOf (.call ⟨.value c, #[a1, a2], tys⟩) ty)).run P w = (callFunc g (#[v1, v2] ++ lb)).run P w := by
    simp only [execOp, opOf, resolve, run_bind, run_pure, hc, Deferred.ofValue, invoke, List.map_toArray, List.map_cons, List.map_nil, h1, h2]
    simp
  rw [this]
  exact hk
theorem boxW_r {x : Option Nat} {T : TypeId} {o : Operand} {ty : TypeId} {m : List (Nat × E)} (v : Value) (hv : rhoOf m env w o = v)
    (hk : (w.alloc (.cells v.cells T)).heap[w.heap.size]? = some (.cells v.cells T (0, 0)) → Mod none' w (w.alloc (.cells v.cells T)) → k.wp P Q (updo env x (.pointer (some ⟨w.heap.size, 0, none⟩))) (w.alloc (.cells v.cells T))) :
    (S.op x (.box T o) ty m [] k).wp P Q env w := by
  obtain ⟨h1, h2, h3⟩ := newBlk w v.cells T
  show uponK P _ ((execOp (rhoOf m env w) (opOf (.box T o) ty)).run P w)
  have : (execOp (rhoOf m env w) (opOf (.box T o) ty)).run P w = .ok (.value (.pointer (some ⟨w.heap.size, 0, none⟩))) (w.alloc (.cells v.cells T)) := by
    simp only [execOp, opOf, Instr.box, newVar, newRow, newObj, run_bind, run_pure, hv]
    rfl
  rw [this]
  exact ⟨trivial, hk h1 h2⟩
end

/-- What is asked of 'less', of 'swap' and of the row. -/
structure SC (W : World) (S : List Nd) (lb sb : Array Value) (sf g n : Nat) : Prop where
  less : LessReads Try.prog 53 lb (ndP S) (ltW S) g 0 n W
  swap : SwapSwaps Try.prog sf sb (ndP S) g 0 n
  hb : g < W.heap.size
  h0 : ∃ d0 : Array Nat, Sort.Holds (ndP S) W g 0 d0 ∧ d0.size = n
  small : n < 1152921504606846976
/-- The row holds d. -/
def SRw (W : World) (S : List Nd) (g n : Nat) (d : List Nat) (w : World) : Prop := SW (ndP S) W g 0 d.toArray w ∧ d.length = n
/-- The two functions, as they are handed on. -/
def dat (lb sb : Array Value) (sf : Nat) : Value := .agg #[.func (.func 53) #[] lb, .func (.func sf) #[] sb]

theorem mod_alloc (w : World) (c : Array Value) (e : TypeId) : Mod none' w (w.alloc (.cells c e)) := (newBlk w c e).2.1
theorem SRw.alloc {W w : World} {S : List Nd} {g n : Nat} {d : List Nat} (h : SRw W S g n d w) (o : Obj) : SRw W S g n d (w.alloc o) := ⟨h.1.alloc o, h.2⟩
theorem SRw.ge {W w : World} {S : List Nd} {g n : Nat} {d : List Nat} {lb sb : Array Value} {sf : Nat} (h : SRw W S g n d w) (C : SC W S lb sb sf g n) : g < w.heap.size := h.1.lt C.hb
theorem ga (d : List Nat) {i : Nat} (hi : i < d.length) : d.toArray[i]! = gnn d i := by rw [getElem!_pos _ _ (by simpa using hi)]; simp [gnn, hi]

def swapL (d : List Nat) (i j : Nat) : List Nat := (d.set i (gnn d j)).set j (gnn d i)
theorem swapL_swp (d : List Nat) {i j : Nat} (hi : i < d.length) (hj : j < d.length) : Sort.swp d.toArray i j = (swapL d i j).toArray := by
  unfold Sort.swp swapL
  rw [ga d hi, ga d hj]
  simp
theorem swapL_len (d : List Nat) (i j : Nat) : (swapL d i j).length = d.length := by simp [swapL]
theorem gnn_app (A : List Nat) (x : Nat) (B : List Nat) : gnn (A ++ x :: B) A.length = x := by simp [gnn]
theorem swapL_app (A : List Nat) (x : Nat) (M : List Nat) (y : Nat) (B : List Nat) : swapL (A ++ x :: (M ++ y :: B)) A.length (A.length + 1 + M.length) = A ++ y :: (M ++ x :: B) ∧ swapL (A ++ x :: (M ++ y :: B)) (A.length + 1 + M.length) A.length = A ++ y :: (M ++ x :: B) := by
  have e1 : gnn (A ++ x :: (M ++ y :: B)) A.length = x := gnn_app ..
  have e2 : gnn (A ++ x :: (M ++ y :: B)) (A.length + 1 + M.length) = y := by
    have := gnn_app (A ++ x :: M) y B
    rw [List.length_append, List.length_cons] at this
    rw [show A.length + 1 + M.length = A.length + (M.length + 1) by omega]
    simpa using this
  unfold swapL
  rw [e1, e2]
  constructor
  · simp [List.set_append, show ¬ A.length + 1 + M.length < A.length by omega, show A.length + 1 + M.length - A.length = M.length + 1 by omega]
  · simp [List.set_append, show ¬ A.length + 1 + M.length < A.length by omega, show A.length + 1 + M.length - A.length = M.length + 1 by omega]

section
variable {Q : Exit → Env → World → Prop} {env : Env} {w W : World} {k : S} {T : List Nd} {lb sb : Array Value} {sf g n : Nat} {d : List Nat}
theorem less_r {x : Option Nat} {c a1 a2 : Operand} {tys : Array TypeId} {ty : TypeId} {m : List (Nat × E)} (C : SC W T lb sb sf g n) (H : SRw W T g n d w) (i j : Nat) (hi : i < n) (hj : j < n)
    (hc : rhoOf m env w c = .func (.func 53) #[] lb) (h1 : rhoOf m env w a1 = .int .i64 i) (h2 : rhoOf m env w a2 = .int .i64 j)
    (hk : ∀ w', SRw W T g n d w' → Mod none' w w' → k.wp Try.prog Q (updo env x (.bool (ltW T (gnn d i) (gnn d j)))) w') : (S.op x (.call ⟨.value c, #[a1, a2], tys⟩) ty m [] k).wp Try.prog Q env w := by
  refine dyn_r hc h1 h2 ?_
  rw [enters_of Try.func53 (by kernel_rfl) rfl]
  have hd := H.2
  have := H.1.less C.less (by simpa using hd) i j hi hj
  rw [ga d (by omega), ga d (by omega)] at this
  refine Calls.mono this ?_
  rintro e w' ⟨rfl, q, rfl⟩
  exact ⟨_, rfl, trivial, hk _ ⟨H.1.drewN q, hd⟩ ⟨rfl, rfl, rfl, Nat.le_refl _, fun _ _ _ => rfl⟩⟩
theorem swap_r {x : Option Nat} {c a1 a2 : Operand} {tys : Array TypeId} {ty : TypeId} {m : List (Nat × E)} (C : SC W T lb sb sf g n) (H : SRw W T g n d w) (i j : Nat) (hi : i < n) (hj : j < n)
    (hc : rhoOf m env w c = .func (.func sf) #[] sb) (h1 : rhoOf m env w a1 = .int .i64 i) (h2 : rhoOf m env w a2 = .int .i64 j)
    (hk : ∀ w', SRw W T g n (swapL d i j) w' → Mod (fun b => b = g) w w' → k.wp Try.prog Q (updo env x (.tuple #[])) w') : (S.op x (.call ⟨.value c, #[a1, a2], tys⟩) ty m [] k).wp Try.prog Q env w := by
  refine dyn_r hc h1 h2 ?_
  have hd := H.2
  obtain ⟨d0, hH0, hs0⟩ := C.h0
  have hH := H.1.holds C.hb hH0 (by simp; omega)
  rw [C.swap w d.toArray hH (by simpa using hd) i j hi hj]
  have := H.1.swap C.hb i j (by simp; omega) (by simp; omega)
  rw [swapL_swp d (by omega) (by omega)] at this
  refine ⟨trivial, hk _ ⟨this, by rw [swapL_len]; exact hd⟩ ⟨rfl, rfl, rfl, by simp [World.setCell], fun b hb hne => ?_⟩⟩
  have hne' : ¬ b = g := hne
  simp only [World.setCell, Array.getElem?_modify, if_neg (fun e => hne' (Eq.symm e) : ¬ g = b)]
end

end Go.Proofs.Ytgjnfajdejkkjaa.VG
