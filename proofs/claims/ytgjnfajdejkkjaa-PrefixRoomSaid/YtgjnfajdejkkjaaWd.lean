/-
  The library's stable sort, over a 'less' and a 'swap' by their contracts: what is asked, the two calls (and what goes with it: parts Wb Wc Wd).
-/
import Derived.Test.YtgjnfajdejkkjaaQb
import Derived.Test.YtgjnfajdejkkjaaWa

/-! ## The library's stable sort, over a 'less' and a 'swap' by their contracts: what is asked, the two calls. -/
namespace Go.Proofs.Ytgjnfajdejkkjaa.VG
open Go
set_option linter.unusedSimpArgs false
set_option linter.unusedVariables false
set_option maxRecDepth 20000

section
variable {P : Program} {Q : Exit → Env → World → Prop} {env : Env} {w W : World} {k : S}
theorem dyn_r {x : Option Nat} {g : Nat} {lb : Array Value} {c a1 a2 : Operand} {v1 v2 : Value} {tys : Array TypeId} {ty : TypeId} {m : List (Nat × E)} {pr : List PrE} (hc : rhoOf m env w c = .func (.func g) #[] lb) (h1 : rhoOf m env w a1 = v1) (h2 : rhoOf m env w a2 = v2)
    (hk : uponK P (fun v w' => promsOk pr env w w' ∧ k.wp P Q (updo env x v) w') ((callFunc g (#[v1, v2] ++ lb)).run P w)) : (S.op x (.call ⟨.value c, #[a1, a2], tys⟩) ty m pr k).wp P Q env w := by
  show uponK P _ ((execOp (rhoOf m env w) (opOf (.call ⟨.value c, #[a1, a2], tys⟩) ty)).run P w)
  have : (execOp (rhoOf m env w) (opOf (.call ⟨.value c, #[a1, a2], tys⟩) ty)).run P w = (callFunc g (#[v1, v2] ++ lb)).run P w := by
    simp only [execOp, opOf, resolve, run_bind, run_pure, hc, Deferred.ofValue, invoke, List.map_toArray, List.map_cons, List.map_nil, h1, h2]
    simp
  rw [this]
  exact hk
theorem boxW_r {x : Option Nat} {T : TypeId} {o : Operand} {ty : TypeId} {m : List (Nat × E)} (v : Value) (hv : rhoOf m env w o = v)
    (hk : (w.alloc (.cells v.cells T)).heap[w.heap.size]? = some (.cells v.cells T (0, 0)) → Mod none' w (w.alloc (.cells v.cells T)) → k.wp P Q (updo env x (.pointer (some ⟨w.heap.size, 0, none⟩))) (w.alloc (.cells v.cells T))) :
    (S.op x (.box T o) ty m [] k).wp P Q env w := by
  obtain ⟨h1, h2, h3⟩ := newBlk w v.cells T
  show uponK P _ ((execOp (rhoOf m env w) (opOf (.box T o) ty)).run P w)
  have : (execOp (rhoOf m env w) (opOf (.box T o) ty)).run P w = .ok (.value (.pointer (some ⟨w.heap.size, 0, none⟩))) (w.alloc (.cells v.cells T)) := by
    simp only [execOp, opOf, Instr.box, newVar, newRow, newObj, run_bind, run_pure, hv]
    rfl
  rw [this]
  exact ⟨trivial, hk h1 h2⟩
end

/-- What is asked of 'less', of 'swap' and of the row. -/
structure SC (W : World) (S : List Nd) (lb sb : Array Value) (sf g n : Nat) : Prop where
  less : LessReads Try.prog 53 lb (ndP S) (ltW S) g 0 n W
  swap : SwapSwaps Try.prog sf sb (ndP S) g 0 n
  hb : g < W.heap.size
  h0 : ∃ d0 : Array Nat, Sort.Holds (ndP S) W g 0 d0 ∧ d0.size = n
  small : n < 1152921504606846976
/-- The row holds d. -/
def SRw (W : World) (S : List Nd) (g n : Nat) (d : List Nat) (w : World) : Prop := SW (ndP S) W g 0 d.toArray w ∧ d.length = n
/-- The two functions, as they are handed on. -/
def dat (lb sb : Array Value) (sf : Nat) : Value := .agg #[.func (.func 53) #[] lb, .func (.func sf) #[] sb]

theorem mod_alloc (w : World) (c : Array Value) (e : TypeId) : Mod none' w (w.alloc (.cells c e)) := (newBlk w c e).2.1
theorem SRw.alloc {W w : World} {S : List Nd} {g n : Nat} {d : List Nat} (h : SRw W S g n d w) (o : Obj) : SRw W S g n d (w.alloc o) := ⟨h.1.alloc o, h.2⟩
theorem SRw.ge {W w : World} {S : List Nd} {g n : Nat} {d : List Nat} {lb sb : Array Value} {sf : Nat} (h : SRw W S g n d w) (C : SC W S lb sb sf g n) : g < w.heap.size := h.1.lt C.hb
theorem ga (d : List Nat) {i : Nat} (hi : i < d.length) : d.toArray[i]! = gnn d i := by rw [getElem!_pos _ _ (by simpa using hi)]; simp [gnn, hi]

def swapL (d : List Nat) (i j : Nat) : List Nat := (d.set i (gnn d j)).set j (gnn d i)
theorem swapL_swp (d : List Nat) {i j : Nat} (hi : i < d.length) (hj : j < d.length) : Sort.swp d.toArray i j = (swapL d i j).toArray := by
  unfold Sort.swp swapL
  rw [ga d hi, ga d hj]
  simp
theorem swapL_len (d : List Nat) (i j : Nat) : (swapL d i j).length = d.length := by simp [swapL]
theorem gnn_app (A : List Nat) (x : Nat) (B : List Nat) : gnn (A ++ x :: B) A.length = x := by simp [gnn]
theorem swapL_app (A : List Nat) (x : Nat) (M : List Nat) (y : Nat) (B : List Nat) : swapL (A ++ x :: (M ++ y :: B)) A.length (A.length + 1 + M.length) = A ++ y :: (M ++ x :: B) ∧ swapL (A ++ x :: (M ++ y :: B)) (A.length + 1 + M.length) A.length = A ++ y :: (M ++ x :: B) := by
  have e1 : gnn (A ++ x :: (M ++ y :: B)) A.length = x := gnn_app ..
  have e2 : gnn (A ++ x :: (M ++ y :: B)) (A.length + 1 + M.length) = y := by
    have := gnn_app (A ++ x :: M) y B
    rw [List.length_append, List.length_cons] at this
    rw [show A.length + 1 + M.length = A.length + (M.length + 1) by omega]
    simpa using this
  unfold swapL
  rw [e1, e2]
  constructor
  · simp [List.set_append, show ¬ A.length + 1 + M.length < A.length by omega, show A.length + 1 + M.length - A.length = M.length + 1 by omega]
  · simp [List.set_append, show ¬ A.length + 1 + M.length < A.length by omega, show A.length + 1 + M.length - A.length = M.length + 1 by omega]

section
variable {Q : Exit → Env → World → Prop} {env : Env} {w W : World} {k : S} {T : List Nd} {lb sb : Array Value} {sf g n : Nat} {d : List Nat}
theorem less_r {x : Option Nat} {c a1 a2 : Operand} {tys : Array TypeId} {ty : TypeId} {m : List (Nat × E)} (C : SC W T lb sb sf g n) (H : SRw W T g n d w) (i j : Nat) (hi : i < n) (hj : j < n)
    (hc : rhoOf m env w c = .func (.func 53) #[] lb) (h1 : rhoOf m env w a1 = .int .i64 i) (h2 : rhoOf m env w a2 = .int .i64 j)
    (hk : ∀ w', SRw W T g n d w' → Mod none' w w' → k.wp Try.prog Q (updo env x (.bool (ltW T (gnn d i) (gnn d j)))) w') : (S.op x (.call ⟨.value c, #[a1, a2], tys⟩) ty m [] k).wp Try.prog Q env w := by
  refine dyn_r hc h1 h2 ?_
  rw [enters_of Try.func53 (by kernel_rfl) rfl]
  have hd := H.2
  have := H.1.less C.less (by simpa using hd) i j hi hj
  rw [ga d (by omega), ga d (by omega)] at this
  refine Calls.mono this ?_
  rintro e w' ⟨rfl, q, rfl⟩
  exact ⟨_, rfl, trivial, hk _ ⟨H.1.drewN q, hd⟩ ⟨rfl, rfl, rfl, Nat.le_refl _, fun _ _ _ => rfl⟩⟩
theorem swap_r {x : Option Nat} {c a1 a2 : Operand} {tys : Array TypeId} {ty : TypeId} {m : List (Nat × E)} (C : SC W T lb sb sf g n) (H : SRw W T g n d w) (i j : Nat) (hi : i < n) (hj : j < n)
    (hc : rhoOf m env w c = .func (.func sf) #[] sb) (h1 : rhoOf m env w a1 = .int .i64 i) (h2 : rhoOf m env w a2 = .int .i64 j)
    (hk : ∀ w', SRw W T g n (swapL d i j) w' → Mod (fun b => b = g) w w' → k.wp Try.prog Q (updo env x (.tuple #[])) w') : (S.op x (.call ⟨.value c, #[a1, a2], tys⟩) ty m [] k).wp Try.prog Q env w := by
  refine dyn_r hc h1 h2 ?_
  have hd := H.2
  obtain ⟨d0, hH0, hs0⟩ := C.h0
  have hH := H.1.holds C.hb hH0 (by simp; omega)
  rw [C.swap w d.toArray hH (by simpa using hd) i j hi hj]
  have := H.1.swap C.hb i j (by simp; omega) (by simp; omega)
  rw [swapL_swp d (by omega) (by omega)] at this
  refine ⟨trivial, hk _ ⟨this, by rw [swapL_len]; exact hd⟩ ⟨rfl, rfl, rfl, by simp [World.setCell], fun b hb hne => ?_⟩⟩
  have hne' : ¬ b = g := hne
  simp only [World.setCell, Array.getElem?_modify, if_neg (fun e => hne' (Eq.symm e) : ¬ g = b)]
end

end Go.Proofs.Ytgjnfajdejkkjaa.VG

/-! ## The library's stable sort: ranges swapped, parts turned round. -/
namespace Go.Proofs.Ytgjnfajdejkkjaa.VG
open Go
set_option linter.unusedSimpArgs false
set_option linter.unusedVariables false
set_option maxRecDepth 20000

def DCell (lb sb : Array Value) (sf b : Nat) (w : World) : Prop := w.cell? ⟨b, 0, none⟩ = some (.func (.func 53) #[] lb) ∧ w.cell? ⟨b, 1, none⟩ = some (.func (.func sf) #[] sb)
theorem DCell.mod {lb sb : Array Value} {sf b g : Nat} {w w' : World} (h : DCell lb sb sf b w) (m : Mod (fun k => k = g) w w') (hb : b ≠ g) : DCell lb sb sf b w' := ⟨m.cell h.1 hb, m.cell h.2 hb⟩
theorem DCell.mk' {lb sb : Array Value} {sf b : Nat} {w : World} {T : TypeId} (h : w.heap[b]? = some (.cells (dat lb sb sf).cells T (0, 0))) : DCell lb sb sf b w := ⟨by rw [cell_blk h 0]; rfl, by rw [cell_blk h 1]; rfl⟩
theorem DCell.ld {lb sb : Array Value} {sf b : Nat} {w : World} (h : DCell lb sb sf b w) : (∀ j, j < 2 → (w.cell? ⟨b, j, none⟩).isSome = true) ∧ cellsFrom w ⟨b, 0, none⟩ 0 2 = [.func (.func 53) #[] lb, .func (.func sf) #[] sb] := by
  obtain ⟨h1, h2⟩ := h
  refine ⟨fun j hj => ?_, ?_⟩
  · obtain rfl | rfl : j = 0 ∨ j = 1 := by omega
    · rw [h1]; rfl
    · rw [h2]; rfl
  · simp [cellsFrom, Addr.add, h1, h2]

section
variable {W w : World} {T : List Nd} {lb sb : Array Value} {sf g n : Nat}

set_option maxHeartbeats 2000000 in
theorem swapR_c (C : SC W T lb sb sf g n) {A U M V B : List Nat} (H : SRw W T g n (A ++ (U ++ (M ++ (V ++ B)))) w) (hUV : U.length = V.length) {a b c : Nat} (ha : a = A.length) (hb : b = A.length + U.length + M.length) (hc : c = U.length) :
    Calls Try.prog 71 [dat lb sb sf, .int .i64 a, .int .i64 b, .int .i64 c].toArray w (Ret fun r w' => r = .tuple #[] ∧ SRw W T g n (A ++ (V ++ (M ++ (U ++ B)))) w' ∧ Mod (fun k => k = g) w w') := by
  refine F_sound c71 (by simp [fc71]) ?_
  have hlen : A.length + (U.length + (M.length + (V.length + B.length))) = n := by simpa using H.2
  have hsm := C.small
  have hne : w.heap.size ≠ g := by have := H.ge C; omega
  simp [fc71, s71]
  refine boxW_r (dat lb sb sf) (by simp) ?_
  intro hh M1
  have H1 := H.alloc (.cells (dat lb sb sf).cells 101)
  have D1 := DCell.mk' hh
  generalize w.alloc (.cells (dat lb sb sf).cells 101) = w1 at *
  generalize w.heap.size = q at *
  simp
  refine for_r c (fun k env' w' => env' 1 = .int .i64 a ∧ env' 2 = .int .i64 b ∧ env' 3 = .int .i64 c ∧ env' 4 = .pointer (some ⟨q, 0, none⟩) ∧ env' 8 = .int .i64 k ∧
    ∃ U1 U2 V1 V2, U = U1 ++ U2 ∧ V = V1 ++ V2 ∧ U1.length = k ∧ V1.length = k ∧ SRw W T g n (A ++ (V1 ++ (U2 ++ (M ++ (U1 ++ (V2 ++ B)))))) w' ∧ Mod (fun k => k = g) w1 w') ?_ ?_ ?_
  · exact ⟨by simp, by simp, by simp, by simp, by simp, [], U, [], V, rfl, rfl, rfl, rfl, H1, Mod.refl _ _⟩
  · rintro k env w2 hk ⟨e1, e2, e3, e4, e8, U1, U2, V1, V2, rfl, rfl, h1, h2, H, MM⟩
    have wk : IntKind.i64.wrap ((k : Int) + 1) = ((k + 1 : Nat) : Int) := by rw [wI (by omega) (by omega)]; omega
    have wa : IntKind.i64.wrap ((a : Int) + k) = ((a + k : Nat) : Int) := by rw [wI (by omega) (by omega)]; omega
    have wb : IntKind.i64.wrap ((b : Int) + k) = ((b + k : Nat) : Int) := by rw [wI (by simp at hlen hb; omega) (by simp at hlen hb; omega)]; omega
    obtain ⟨D0, D2⟩ := D1.mod MM hne
    rw [List.length_append] at hc hlen hb hUV
    rw [List.length_append] at hUV hlen
    obtain ⟨x, U2, rfl⟩ : ∃ x r, U2 = x :: r := List.exists_cons_of_length_pos (by omega)
    obtain ⟨y, V2, rfl⟩ : ∃ x r, V2 = x :: r := List.exists_cons_of_length_pos (by omega)
    rw [List.length_cons] at hc hlen hb hUV
    rw [List.length_cons] at hUV hlen
    have hs := (swapL_app (A ++ V1) x (U2 ++ (M ++ U1)) y (V2 ++ B)).1
    rw [show (A ++ V1).length = a + k by simp; omega, show a + k + 1 + (U2 ++ (M ++ U1)).length = b + k by simp; omega] at hs
    simp [e3, e8]
    refine ite_r (t := true) (by simp; omega) (fun _ => ?_) (fun h => by cases h)
    simp [wp_blk, e1, e2, e4, e8, D2, wa, wb, -Int.natCast_add]
    refine swap_r C (i := a + k) (j := b + k) H (by omega) (by omega) (by simp) (by simp [e1, e8, wa, -Int.natCast_add]) (by simp [e2, e8, wb, -Int.natCast_add]) ?_
    intro w3 H3 M3
    simp [e8, wk, -Int.natCast_add]
    refine ⟨by simp [e1], by simp [e2], by simp [e3], by simp [e4], by simp, U1 ++ [x], U2, by simp, V1 ++ [y], V2, by simp, by simp [h1], by simp [h2], ?_, MM.tr M3⟩
    have e : A ++ (V1 ++ (x :: U2 ++ (M ++ (U1 ++ (y :: V2 ++ B))))) = A ++ V1 ++ x :: ((U2 ++ (M ++ U1)) ++ y :: (V2 ++ B)) := by simp
    rw [e, hs] at H3
    have e' : A ++ (V1 ++ [y] ++ (U2 ++ (M ++ (U1 ++ [x] ++ (V2 ++ B))))) = A ++ V1 ++ y :: ((U2 ++ (M ++ U1)) ++ x :: (V2 ++ B)) := by simp
    rw [e']
    exact H3
  · rintro env w2 ⟨e1, e2, e3, e4, e8, U1, U2, V1, V2, rfl, rfl, h1, h2, H, MM⟩
    simp at hc hUV
    obtain rfl : U2 = [] := List.length_eq_zero_iff.1 (by omega)
    obtain rfl : V2 = [] := List.length_eq_zero_iff.1 (by omega)
    simp [e3, e8]
    refine ite_r (t := false) (by simp) (fun h => by cases h) (fun _ => ?_)
    simp
    exact ⟨by simpa using H, (M1.mono fun _ _ h => h.elim).tr MM⟩
set_option maxHeartbeats 2000000 in
theorem rotate_c (C : SC W T lb sb sf g n) {A U V B : List Nat} (H : SRw W T g n (A ++ (U ++ (V ++ B))) w) (hU : 0 < U.length) (hV : 0 < V.length) {a m b : Nat} (ha : a = A.length) (hm : m = A.length + U.length) (hb : b = A.length + U.length + V.length) :
    Calls Try.prog 70 [dat lb sb sf, .int .i64 a, .int .i64 m, .int .i64 b].toArray w (Ret fun r w' => r = .tuple #[] ∧ SRw W T g n (A ++ (V ++ (U ++ B))) w' ∧ Mod (fun k => k = g) w w') := by
  refine F_sound c70 (by simp [fc70]) ?_
  have hlen : A.length + (U.length + (V.length + B.length)) = n := by simpa using H.2
  have hsm := C.small
  have hne : w.heap.size ≠ g := by have := H.ge C; omega
  simp [fc70, s70]
  refine boxW_r (dat lb sb sf) (by simp) ?_
  intro hh M1
  have H1 := H.alloc (.cells (dat lb sb sf).cells 101)
  have D1 := DCell.mk' hh
  generalize w.alloc (.cells (dat lb sb sf).cells 101) = w1 at *
  generalize w.heap.size = q at *
  have w1' : IntKind.i64.wrap ((m : Int) - a) = (U.length : Int) := by rw [wI (by omega) (by omega)]; omega
  have w2' : IntKind.i64.wrap ((b : Int) - m) = (V.length : Int) := by rw [wI (by omega) (by omega)]; omega
  simp [w1', w2']
  refine loop_r (fun z env' w' => env' 2 = .int .i64 m ∧ env' 4 = .pointer (some ⟨q, 0, none⟩) ∧
    ∃ A' U' V' B', z = U'.length + V'.length ∧ env' 8 = .int .i64 U'.length ∧ env' 9 = .int .i64 V'.length ∧ 0 < U'.length ∧ 0 < V'.length ∧ A'.length + U'.length = m ∧ A'.length + (U'.length + (V'.length + B'.length)) = n ∧ SRw W T g n (A' ++ (U' ++ (V' ++ B'))) w' ∧ A' ++ (V' ++ (U' ++ B')) = A ++ (V ++ (U ++ B)) ∧ Mod (fun k => k = g) w1 w') (U.length + V.length) ?_ ?_
  · exact ⟨by simp, by simp, A, U, V, B, rfl, by simp, by simp, hU, hV, hm.symm, hlen, H1, rfl, Mod.refl _ _⟩
  · rintro z env w2 ⟨e2, e4, A', U', V', B', rfl, e8, e9, hU', hV', hm', hl', H, hE, MM⟩
    obtain ⟨DA, DB⟩ := (D1.mod MM hne).ld
    have wmi : IntKind.i64.wrap ((m : Int) - U'.length) = (A'.length : Int) := by rw [wI (by omega) (by omega)]; omega
    simp [e8, e9]
    by_cases heq : U'.length = V'.length
    · refine ite_r (t := false) (by simp; omega) (fun h => by cases h) (fun _ => ?_)
      simp [e2, e4, e8, DB, wmi]
      refine ⟨DA, ?_⟩
      refine call_h (swapR_c C (A := A') (U := U') (M := []) (V := V') (B := B') (by simpa using H) heq (a := A'.length) (b := m) (c := U'.length) rfl (by simp; omega) rfl) (by simp [e2, e4, e8, wmi, dat]) ?_
      rintro r w3 ⟨rfl, H3, M3⟩
      simp
      simp only [List.nil_append] at H3
      rw [hE] at H3
      exact ⟨H3, (M1.mono fun _ _ h => h.elim).tr (MM.tr M3)⟩
    · refine ite_r (t := true) (by simp; omega) (fun _ => ?_) (fun h => by cases h)
      simp [wp_blk, e8, e9]
      by_cases hgt : V'.length < U'.length
      · refine ite_r (t := true) (by simp; omega) (fun _ => ?_) (fun h => by cases h)
        obtain ⟨P, R, rfl, hP⟩ : ∃ P R, U' = P ++ R ∧ P.length = V'.length := ⟨U'.take V'.length, U'.drop V'.length, (List.take_append_drop _ _).symm, by simp; omega⟩
        rw [List.length_append] at e8 hgt hl' hm' wmi hU' heq
        have wij : IntKind.i64.wrap (((P.length + R.length : Nat) : Int) - V'.length) = (R.length : Int) := by rw [wI (by omega) (by omega)]; omega
        simp [e2, e4, e8, e9, DB, wmi, -Int.natCast_add]
        refine ⟨DA, ?_⟩
        refine call_h (swapR_c C (A := A') (U := P) (M := R) (V := V') (B := B') (by simpa using H) hP (a := A'.length) (b := m) (c := V'.length) rfl (by omega) hP.symm) (by simp [e2, e4, e8, e9, wmi, dat, -Int.natCast_add]) ?_
        rintro r w3 ⟨rfl, H3, M3⟩
        simp [e8, e9, wij, -Int.natCast_add]
        refine ⟨V'.length + R.length, by omega, by simp [e2], by simp [e4], A' ++ V', R, P, by omega, by simp, by simp [hP, e9], by omega, by omega, by simp; omega, B', by simp; omega, by simpa using H3, by rw [← hE]; simp, MM.tr M3⟩
      · refine ite_r (t := false) (by simp; omega) (fun h => by cases h) (fun _ => ?_)
        obtain ⟨P, R, rfl, hP⟩ : ∃ P R, V' = P ++ R ∧ R.length = U'.length := ⟨V'.take (V'.length - U'.length), V'.drop (V'.length - U'.length), (List.take_append_drop _ _).symm, by simp; omega⟩
        rw [List.length_append] at e9 hgt hl' hV' heq
        have wmj : IntKind.i64.wrap ((m : Int) + (P.length + R.length : Nat)) = ((m + (P.length + R.length) : Nat) : Int) := by rw [wI (by omega) (by omega)]; omega
        have wmj2 : IntKind.i64.wrap (((m + (P.length + R.length) : Nat) : Int) - U'.length) = ((m + P.length : Nat) : Int) := by rw [wI (by omega) (by omega)]; omega
        have wji : IntKind.i64.wrap (((P.length + R.length : Nat) : Int) - U'.length) = (P.length : Int) := by rw [wI (by omega) (by omega)]; omega
        simp [e2, e4, e8, e9, DB, wmi, wmj, wmj2, -Int.natCast_add]
        refine ⟨DA, ?_⟩
        refine call_h (swapR_c C (A := A') (U := U') (M := P) (V := R) (B := B') (by simpa using H) hP.symm (a := A'.length) (b := m + P.length) (c := U'.length) rfl (by omega) rfl) (by simp [e2, e4, e8, e9, wmi, wmj, wmj2, dat, -Int.natCast_add]) ?_
        rintro r w3 ⟨rfl, H3, M3⟩
        simp [e8, e9, wji, -Int.natCast_add]
        refine ⟨R.length + P.length, by omega, by simp [e2], by simp [e4], A', R, P, by omega, by simp [e8, hP], by simp, by omega, by omega, by omega, U' ++ B', by simp; omega, by simpa using H3, by rw [← hE]; simp, MM.tr M3⟩
end

end Go.Proofs.Ytgjnfajdejkkjaa.VG

/-! ## The library's stable sort: a block by insertion; what the searches tell. -/
namespace Go.Proofs.Ytgjnfajdejkkjaa.VG
open Go
set_option linter.unusedSimpArgs false
set_option linter.unusedVariables false
set_option maxRecDepth 20000

theorem gnn_in (A Y B : List Nat) {t : Nat} (h : t < Y.length) : gnn (A ++ (Y ++ B)) (A.length + t) = gnn Y t := by
  unfold gnn
  rw [List.getD_eq_getElem?_getD, List.getD_eq_getElem?_getD, List.getElem?_append_right (by omega), Nat.add_sub_cancel_left, List.getElem?_append_left h]
theorem asc_ix {f : Nat → Int} {l : List Nat} (h : Asc f l) {i j : Nat} (hij : i ≤ j) (hj : j < l.length) : f (gnn l i) ≤ f (gnn l j) := by
  rcases Nat.lt_or_ge i j with h1 | h1
  · have := List.pairwise_iff_getElem.1 h i j (by omega) hj h1
    rwa [gnn_get (by omega), gnn_get hj] at this
  · obtain rfl : i = j := by omega
    omega
theorem take_ix {l : List Nat} {s x : Nat} (h : x ∈ l.take s) : ∃ i, i < s ∧ i < l.length ∧ x = gnn l i := by
  obtain ⟨i, hi, e⟩ := List.mem_iff_getElem.1 h
  rw [List.length_take] at hi
  refine ⟨i, by omega, by omega, ?_⟩
  rw [← gnn_get (by omega : i < l.length), ← e, List.getElem_take]
theorem drop_ix {l : List Nat} {s x : Nat} (h : x ∈ l.drop s) : ∃ i, s ≤ i ∧ i < l.length ∧ x = gnn l i := by
  obtain ⟨i, hi, e⟩ := List.mem_iff_getElem.1 h
  rw [List.length_drop] at hi
  refine ⟨s + i, by omega, by omega, ?_⟩
  rw [← gnn_get (by omega : s + i < l.length), ← e, List.getElem_drop]
theorem asc_take {f : Nat → Int} {l : List Nat} (h : Asc f l) (s : Nat) : Asc f (l.take s) := h.sublist (List.take_sublist _ _)
theorem asc_drop {f : Nat → Int} {l : List Nat} (h : Asc f l) (s : Nat) : Asc f (l.drop s) := h.sublist (List.drop_sublist _ _)

theorem mrg_one_l {f : Nat → Int} {x s : Nat} {Y : List Nat} (hY : Asc f Y) (h1 : s = 0 ∨ f (gnn Y (s - 1)) < f x) (h2 : s = Y.length ∨ f x ≤ f (gnn Y s)) (hs : s ≤ Y.length) : mrg f [x] Y = Y.take s ++ x :: Y.drop s := by
  have e := mrg_split f [x] (Y.drop s) _ [] (Y.take s) rfl (by simp) (fun y hy z hz => by
    obtain ⟨i, i1, i2, rfl⟩ := take_ix hy
    simp only [List.mem_singleton] at hz
    subst hz
    have := asc_ix hY (i := i) (j := s - 1) (by omega) (by omega)
    omega)
  rw [List.take_append_drop, List.nil_append, mrg_nil'] at e
  rw [e]
  congr 1
  cases hd : Y.drop s with
  | nil => rw [mrg_nil]
  | cons y r =>
    have hsl : s < Y.length := by
      rcases Nat.lt_or_ge s Y.length with h | h
      · exact h
      · rw [List.drop_eq_nil_of_le h] at hd; cases hd
    rw [List.drop_eq_getElem_cons hsl, gnn_get hsl] at hd
    injection hd with a b
    rw [mrg_l (by rw [← a]; omega), mrg_nil']
theorem mrg_one_r {f : Nat → Int} {y s : Nat} {X : List Nat} (hX : Asc f X) (h1 : s = 0 ∨ f (gnn X (s - 1)) ≤ f y) (h2 : s = X.length ∨ f y < f (gnn X s)) (hs : s ≤ X.length) : mrg f X [y] = X.take s ++ y :: X.drop s := by
  have e := mrg_split f (X.drop s) [y] _ (X.take s) [] rfl (fun z hz w hw => by
    obtain ⟨i, i1, i2, rfl⟩ := take_ix hz
    simp only [List.mem_singleton] at hw
    subst hw
    have := asc_ix hX (i := i) (j := s - 1) (by omega) (by omega)
    omega) (by simp)
  rw [List.take_append_drop, List.nil_append, mrg_nil] at e
  rw [e]
  congr 1
  cases hd : X.drop s with
  | nil => rw [mrg_nil']
  | cons z r =>
    have hsl : s < X.length := by
      rcases Nat.lt_or_ge s X.length with h | h
      · exact h
      · rw [List.drop_eq_nil_of_le h] at hd; cases hd
    rw [List.drop_eq_getElem_cons hsl, gnn_get hsl] at hd
    injection hd with a b
    rw [mrg_r (by rw [← a]; omega), mrg_nil]

section
variable {W w : World} {T : List Nd} {lb sb : Array Value} {sf g n : Nat}

set_option maxHeartbeats 4000000 in
theorem insS_c (C : SC W T lb sb sf g n) {A X B : List Nat} (H : SRw W T g n (A ++ (X ++ B)) w) {a b : Nat} (ha : a = A.length) (hb : b = A.length + X.length) :
    Calls Try.prog 68 [dat lb sb sf, .int .i64 a, .int .i64 b].toArray w (Ret fun r w' => r = .tuple #[] ∧ SRw W T g n (A ++ (srt (ltW T) X ++ B)) w' ∧ Mod (fun k => k = g) w w') := by
  refine F_sound c68 (by simp [fc68]) ?_
  have hlen : A.length + (X.length + B.length) = n := by simpa using H.2
  have hsm := C.small
  have hne : w.heap.size ≠ g := by have := H.ge C; omega
  simp [fc68, s68]
  refine boxW_r (dat lb sb sf) (by simp) ?_
  intro hh M1
  have H1 := H.alloc (.cells (dat lb sb sf).cells 101)
  have D1 := DCell.mk' hh
  generalize w.alloc (.cells (dat lb sb sf).cells 101) = w1 at *
  generalize w.heap.size = q at *
  have wa : IntKind.i64.wrap ((a : Int) + 1) = ((a + 1 : Nat) : Int) := by rw [wI (by omega) (by omega)]; omega
  simp [wa, -Int.natCast_add]
  refine loop_r (fun z env' w' => env' 1 = .int .i64 a ∧ env' 2 = .int .i64 b ∧ env' 3 = .pointer (some ⟨q, 0, none⟩) ∧ ∃ X1 X2 i, z = X.length + 1 - X1.length ∧ i = A.length + X1.length ∧ env' 6 = .int .i64 (i : Nat) ∧ (X = X1 ++ X2 ∨ X = [] ∧ X2 = [] ∧ X1.length = 1) ∧ 0 < X1.length ∧
    SRw W T g n (A ++ ((if X = [] then [] else srt (ltW T) X1) ++ (X2 ++ B))) w' ∧ Mod (fun k => k = g) w1 w') X.length ?_ ?_
  · refine ⟨by simp, by simp, by simp, ?_⟩
    rcases X with _ | ⟨x, r⟩
    · exact ⟨[0], [], a + 1, by simp, by simp [ha], by simp, .inr ⟨rfl, rfl, rfl⟩, by simp, by simpa using H1, Mod.refl _ _⟩
    · exact ⟨[x], r, a + 1, by simp, by simp [ha], by simp, .inl rfl, by simp, by simpa [srt, insL, insV] using H1, Mod.refl _ _⟩
  · rintro z env w2 ⟨e1, e2, e3, X1, X2, i, rfl, rfl, e6, hX, hX1, H, MM⟩
    have hxb : X1.length ≤ X.length + 1 := by
      rcases hX with rfl | ⟨h1, h2, h3⟩
      · simp; omega
      · omega
    have wi : IntKind.i64.wrap (((A.length + X1.length : Nat) : Int) + 1) = ((A.length + (X1.length + 1) : Nat) : Int) := by rw [wI (by omega) (by omega)]; omega
    have hxe : X2 = [] → X.length ≤ X1.length := by
      rintro rfl
      rcases hX with rfl | ⟨rfl, h2, h3⟩
      · simp
      · simp
    rcases X2 with _ | ⟨y, X2⟩
    · simp [e2, e6, -Int.natCast_add]
      have hxe := hxe rfl
      refine ite_r (t := false) (by simp; omega) (fun h => by cases h) (fun _ => ?_)
      simp
      refine ⟨?_, (M1.mono fun _ _ h => h.elim).tr MM⟩
      rcases hX with rfl | ⟨rfl, _, _⟩
      · rw [List.append_nil] at *
        rw [if_neg (by intro h; rw [h] at hX1; simp at hX1)] at H
        simpa using H
      · simpa [srt] using H
    · have hXe : X = X1 ++ y :: X2 := by rcases hX with h | ⟨_, h, _⟩; exact h; cases h
      subst hXe
      rw [if_neg (by simp)] at H
      rw [List.length_append, List.length_cons] at hlen hb
      simp [e2, e6, -Int.natCast_add]
      refine ite_r (t := true) (by simp; omega) (fun _ => ?_) (fun h => by cases h)
      show S.wp _ (S.blk 1 _ _) _ _ _
      rw [wp_blk]
      simp [e6, -Int.natCast_add]
      refine loop_w (fun z env' w' => env' 1 = .int .i64 a ∧ env' 2 = .int .i64 b ∧ env' 3 = .pointer (some ⟨q, 0, none⟩) ∧ env' 6 = .int .i64 (A.length + X1.length : Nat) ∧ ∃ L R, z = L.length ∧ env' 7 = .int .i64 (A.length + L.length : Nat) ∧ insL (ltW T) y L ++ R = srt (ltW T) (X1 ++ [y]) ∧ L.length + R.length = X1.length ∧
        SRw W T g n (A ++ (L ++ (y :: (R ++ (X2 ++ B))))) w' ∧ Mod (fun k => k = g) w1 w') X1.length
        (fun env' w' => env' 1 = .int .i64 a ∧ env' 2 = .int .i64 b ∧ env' 3 = .pointer (some ⟨q, 0, none⟩) ∧ env' 6 = .int .i64 (A.length + X1.length : Nat) ∧ SRw W T g n (A ++ (srt (ltW T) (X1 ++ [y]) ++ (X2 ++ B))) w' ∧ Mod (fun k => k = g) w1 w') ?_ ?_ ?_
      · exact ⟨by simp [e1], by simp [e2], by simp [e3], by simp [e6, -Int.natCast_add], srt (ltW T) X1, [], by rw [srt_length], by simp [srt_length, -Int.natCast_add], by rw [srt_snoc]; simp, by simp [srt_length], by simpa using H, MM⟩
      · rintro z env w3 ⟨e1, e2, e3, e6, L, R, rfl, e7, hI, hLR, H, MM⟩
        obtain ⟨D0, D2⟩ := D1.mod MM hne
        rcases List.eq_nil_or_concat L with rfl | ⟨L', u, rfl⟩
        · simp [e1, e3, e7, D0, D2, -Int.natCast_add]
          refine ifg_r (t := false) (by simp; omega) (fun h => by cases h) (fun _ => ?_)
          simp [e1, e7, -Int.natCast_add]
          refine ite_r (t := false) (by simp; omega) (fun h => by cases h) (fun _ => ?_)
          simp [e1, e2, e3, e6, -Int.natCast_add]
          refine ⟨?_, MM⟩
          rw [← hI]
          simpa [insL, insV] using H
        · rw [List.concat_eq_append] at *
          rw [List.length_append, List.length_singleton] at e7 hLR
          have wj : IntKind.i64.wrap (((A.length + (L'.length + 1) : Nat) : Int) - 1) = ((A.length + L'.length : Nat) : Int) := by rw [wI (by omega) (by omega)]; omega
          have hy : gnn (A ++ (L' ++ [u] ++ (y :: (R ++ (X2 ++ B))))) (A.length + (L'.length + 1)) = y := by
            have := gnn_app (A ++ (L' ++ [u])) y (R ++ (X2 ++ B))
            simpa using this
          have hu : gnn (A ++ (L' ++ [u] ++ (y :: (R ++ (X2 ++ B))))) (A.length + L'.length) = u := by
            have := gnn_app (A ++ L') u (y :: (R ++ (X2 ++ B)))
            simpa using this
          simp [e1, e3, e7, D0, D2, wj, -Int.natCast_add]
          refine ifg_r (t := true) (by simp; omega) (fun _ => ?_) (fun h => (h rfl).elim)
          refine less_r C H (A.length + (L'.length + 1)) (A.length + L'.length) (by omega) (by omega) (by simp; intros; exfalso; omega) (by simp [e7, -Int.natCast_add]) (by simp [e7, wj, -Int.natCast_add]) ?_
          intro w4 H4 M4
          rw [hy, hu]
          obtain ⟨D0, D2⟩ := (D1.mod MM hne).mod (M4.mono fun _ _ h => h.elim) hne
          have MM4 := MM.tr (M4.mono fun _ _ h => h.elim)
          rw [insL_snoc] at hI
          simp [e1, e3, e7, D0, D2, wj, -Int.natCast_add]
          by_cases hlt : ltW T y u = true
          · rw [if_pos hlt] at hI
            refine ite_r (t := true) (by simp [hlt]; omega) (fun _ => ?_) (fun h => by cases h)
            simp [wp_blk, e1, e3, e7, D0, D2, wj, -Int.natCast_add]
            refine swap_r C H4 (A.length + (L'.length + 1)) (A.length + L'.length) (by omega) (by omega) (by simp) (by simp [e7, -Int.natCast_add]) (by simp [e7, wj, -Int.natCast_add]) ?_
            intro w5 H5 M5
            have hs := (swapL_app (A ++ L') u [] y (R ++ (X2 ++ B))).2
            rw [List.length_append, List.length_nil, show A.length + L'.length + 1 + 0 = A.length + (L'.length + 1) by omega] at hs
            simp only [List.nil_append] at hs
            rw [show A ++ (L' ++ [u] ++ (y :: (R ++ (X2 ++ B)))) = A ++ L' ++ u :: y :: (R ++ (X2 ++ B)) by simp, hs] at H5
            simp [e7, wj, -Int.natCast_add]
            refine ⟨L'.length, by omega, by simp [e1], by simp [e2], by simp [e3], by simp [e6, -Int.natCast_add], L', rfl, by simp [-Int.natCast_add], u :: R, by simpa using hI, by simp; omega, by simpa using H5, MM4.tr M5⟩
          · rw [if_neg hlt] at hI
            refine ite_r (t := false) (by simp [hlt]) (fun h => by cases h) (fun _ => ?_)
            simp [e1, e2, e3, e6, -Int.natCast_add]
            refine ⟨?_, MM4⟩
            rw [← hI]
            simpa using H4
      · rintro env w3 ⟨e1, e2, e3, e6, H, MM⟩
        simp [e6, wi, -Int.natCast_add]
        exact ⟨X1.length + (X2.length + 1) + 1 - (X1 ++ [y]).length, by simp; omega, by simp [e1], by simp [e2], by simp [e3], X1 ++ [y], rfl, by simp [-Int.natCast_add], X2, by simp, by simp, by simpa using H, MM⟩
end

end Go.Proofs.Ytgjnfajdejkkjaa.VG
