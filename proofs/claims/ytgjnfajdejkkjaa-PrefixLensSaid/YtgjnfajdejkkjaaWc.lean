/-
  The library's stable sort: ranges swapped, parts turned round.
-/
import Derived.Test.YtgjnfajdejkkjaaWb
namespace Go.Proofs.Ytgjnfajdejkkjaa.VG
open Go
set_option linter.unusedSimpArgs false
set_option linter.unusedVariables false
set_option maxRecDepth 20000

def DCell (lb sb : Array Value) (sf b : Nat) (w : World) : Prop := w.cell? ⟨b, 0, none⟩ = some (.func (.func 53) #[] lb) ∧ w.cell? ⟨b, 1, none⟩ = some (.func (.func sf) #[] sb)
theorem DCell.mod {lb sb : Array Value} {sf b g : Nat} {w w' : World} (h : DCell lb sb sf b w) (m : Mod (fun k => k = g) w w') (hb : b ≠ g) : DCell lb sb sf b w' := ⟨m.cell h.1 hb, m.cell h.2 hb⟩
theorem DCell.mk' {lb sb : Array Value} {sf b : Nat} {w : World} {T : TypeId} (h : w.heap[b]? = some (.cells (dat lb sb sf).cells T (0, 0))) : DCell lb sb sf b w := ⟨by rw [cell_blk h 0]; rfl, by rw [cell_blk h 1]; rfl⟩
theorem DCell.ld {lb sb : Array Value} {sf b : Nat} {w : World} (h : DCell lb sb sf b w) : (∀ j, j < 2 → (w.cell? ⟨b, j, none⟩).isSome = true) ∧ cellsFrom w ⟨b, 0, none⟩ 0 2 = [.func (.func 53) #[] lb, .func (.func sf) #[] sb] := by
  obtain ⟨h1, h2⟩ := h
  refine ⟨fun j hj => ?_, ?_⟩
  · obtain rfl | rfl : j = 0 ∨ j = 1 := by omega
    · rw [h1]; rfl
    · rw [h2]; rfl
  · simp [cellsFrom, Addr.add, h1, h2]

section
variable {W w : World} {T : List Nd} {lb sb : Array Value} {sf g n : Nat}

set_option maxHeartbeats 2000000 in
theorem swapR_c (C : SC W T lb sb sf g n) {A U M V B : List Nat} (H : SRw W T g n (A ++ (U ++ (M ++ (V ++ B)))) w) (hUV : U.length = V.length) {a b c : Nat} (ha : a = A.length) (hb : b = A.length + U.length + M.length) (hc : c = U.length) :
    Calls Try.prog 71 [dat lb sb sf, .int .i64 a, .int .i64 b, .int .i64 c].toArray w (Ret fun r w' => r = .tuple #[] ∧ SRw W T g n (A ++ (V ++ (M ++ (U ++ B)))) w' ∧ Mod (fun k => k = g) w w') := by
  refine F_sound c71 (by simp [fc71]) ?_
  have hlen : A.length + (U.length + (M.length + (V.length + B.length))) = n := by simpa using H.2
  have hsm := C.small
  have hne : w.heap.size ≠ g := by have := H.ge C; omega
  simp [fc71, s71]
  refine boxW_r (dat lb sb sf) (by simp) ?_
  intro hh M1
  have H1 := H.alloc (.cells (dat lb sb sf).cells 101)
  have D1 := DCell.mk' hh
  generalize w.alloc (.cells (dat lb sb sf).cells 101) = w1 at *
  generalize w.heap.size = q at *
  simp
  refine for_r c (fun k env' w' => env' 1 = .int .i64 a ∧ env' 2 = .int .i64 b ∧ env' 3 = .int .i64 c ∧ env' 4 = .pointer (some ⟨q, 0, none⟩) ∧ env' 8 = .int .i64 k ∧
    ∃ U1 U2 V1 V2, U = U1 ++ U2 ∧ V = V1 ++ V2 ∧ U1.length = k ∧ V1.length = k ∧ SRw W T g n (A ++ (V1 ++ (U2 ++ (M ++ (U1 ++ (V2 ++ B)))))) w' ∧ Mod (fun k => k = g) w1 w') ?_ ?_ ?_
  · exact ⟨by simp, by simp, by simp, by simp, by simp, [], U, [], V, rfl, rfl, rfl, rfl, H1, Mod.refl _ _⟩
  · rintro k env w2 hk ⟨e1, e2, e3, e4, e8, U1, U2, V1, V2, rfl, rfl, h1, h2, H, MM⟩
    have wk : IntKind.i64.wrap ((k : Int) + 1) = ((k + 1 : Nat) : Int) := by rw [wI (by omega) (by omega)]; omega
    have wa : IntKind.i64.wrap ((a : Int) + k) = ((a + k : Nat) : Int) := by rw [wI (by omega) (by omega)]; omega
    have wb : IntKind.i64.wrap ((b : Int) + k) = ((b + k : Nat) : Int) := by rw [wI (by simp at hlen hb; omega) (by simp at hlen hb; omega)]; omega
    obtain ⟨D0, D2⟩ := D1.mod MM hne
    rw [List.length_append] at hc hlen hb hUV
    rw [List.length_append] at hUV hlen
    obtain ⟨x, U2, rfl⟩ : ∃ x r, U2 = x :: r := List.exists_cons_of_length_pos (by omega)
    obtain ⟨y, V2, rfl⟩ : ∃ x r, V2 = x :: r := List.exists_cons_of_length_pos (by omega)
    rw [List.length_cons] at hc hlen hb hUV
    rw [List.length_cons] at hUV hlen
    have hs := (swapL_app (A ++ V1) x (U2 ++ (M ++ U1)) y (V2 ++ B)).1
    rw [show (A ++ V1).length = a + k by simp; omega, show a + k + 1 + (U2 ++ (M ++ U1)).length = b + k by simp; omega] at hs
    simp [e3, e8]
    refine ite_r (t := true) (by simp; omega) (fun _ => ?_) (fun h => by cases h)
    simp [wp_blk, e1, e2, e4, e8, D2, wa, wb, -Int.natCast_add]
    refine swap_r C (i := a + k) (j := b + k) H (by omega) (by omega) (by simp) (by simp [e1, e8, wa, -Int.natCast_add]) (by simp [e2, e8, wb, -Int.natCast_add]) ?_
    intro w3 H3 M3
    simp [e8, wk, -Int.natCast_add]
    refine ⟨by simp [e1], by simp [e2], by simp [e3], by simp [e4], by simp, U1 ++ [x], U2, by simp, V1 ++ [y], V2, by simp, by simp [h1], by simp [h2], ?_, MM.tr M3⟩
    have e : A ++ (V1 ++ (x :: U2 ++ (M ++ (U1 ++ (y :: V2 ++ B))))) = A ++ V1 ++ x :: ((U2 ++ (M ++ U1)) ++ y :: (V2 ++ B)) := by simp
    rw [e, hs] at H3
    have e' : A ++ (V1 ++ [y] ++ (U2 ++ (M ++ (U1 ++ [x] ++ (V2 ++ B))))) = A ++ V1 ++ y :: ((U2 ++ (M ++ U1)) ++ x :: (V2 ++ B)) := by simp
    rw [e']
    exact H3
  · rintro env w2 ⟨e1, e2, e3, e4, e8, U1, U2, V1, V2, rfl, rfl, h1, h2, H, MM⟩
    simp at hc hUV
    obtain rfl : U2 = [] := List.length_eq_zero_iff.1 (by omega)
    obtain rfl : V2 = [] := List.length_eq_zero_iff.1 (by omega)
    simp [e3, e8]
    refine ite_r (t := false) (by simp) (fun h => by cases h) (fun _ => ?_)
    simp
    exact ⟨by simpa using H, (M1.mono fun _ _ h => h.elim).tr MM⟩
set_option maxHeartbeats 2000000 in
theorem rotate_c (C : SC W T lb sb sf g n) {A U V B : List Nat} (H : SRw W T g n (A ++ (U ++ (V ++ B))) w) (hU : 0 < U.length) (hV : 0 < V.length) {a m b : Nat} (ha : a = A.length) (hm : m = A.length + U.length) (hb : b = A.length + U.length + V.length) :
    Calls Try.prog 70 [dat lb sb sf, .int .i64 a, .int .i64 m, .int .i64 b].toArray w (Ret fun r w' => r = .tuple #[] ∧ SRw W T g n (A ++ (V ++ (U ++ B))) w' ∧ Mod (fun k => k = g) w w') := by
  refine F_sound c70 (by simp [fc70]) ?_
  have hlen : A.length + (U.length + (V.length + B.length)) = n := by simpa using H.2
  have hsm := C.small
  have hne : w.heap.size ≠ g := by have := H.ge C; omega
  simp [fc70, s70]
  refine boxW_r (dat lb sb sf) (by simp) ?_
  intro hh M1
  have H1 := H.alloc (.cells (dat lb sb sf).cells 101)
  have D1 := DCell.mk' hh
  generalize w.alloc (.cells (dat lb sb sf).cells 101) = w1 at *
  generalize w.heap.size = q at *
  have w1' : IntKind.i64.wrap ((m : Int) - a) = (U.length : Int) := by rw [wI (by omega) (by omega)]; omega
  have w2' : IntKind.i64.wrap ((b : Int) - m) = (V.length : Int) := by rw [wI (by omega) (by omega)]; omega
  simp [w1', w2']
  refine loop_r (fun z env' w' => env' 2 = .int .i64 m ∧ env' 4 = .pointer (some ⟨q, 0, none⟩) ∧
    ∃ A' U' V' B', z = U'.length + V'.length ∧ env' 8 = .int .i64 U'.length ∧ env' 9 = .int .i64 V'.length ∧ 0 < U'.length ∧ 0 < V'.length ∧ A'.length + U'.length = m ∧ A'.length + (U'.length + (V'.length + B'.length)) = n ∧ SRw W T g n (A' ++ (U' ++ (V' ++ B'))) w' ∧ A' ++ (V' ++ (U' ++ B')) = A ++ (V ++ (U ++ B)) ∧ Mod (fun k => k = g) w1 w') (U.length + V.length) ?_ ?_
  · exact ⟨by simp, by simp, A, U, V, B, rfl, by simp, by simp, hU, hV, hm.symm, hlen, H1, rfl, Mod.refl _ _⟩
  · rintro z env w2 ⟨e2, e4, A', U', V', B', rfl, e8, e9, hU', hV', hm', hl', H, hE, MM⟩
    obtain ⟨DA, DB⟩ := (D1.mod MM hne).ld
    have wmi : IntKind.i64.wrap ((m : Int) - U'.length) = (A'.length : Int) := by rw [wI (by omega) (by omega)]; omega
    simp [e8, e9]
    by_cases heq : U'.length = V'.length
    · refine ite_r (t := false) (by simp; omega) (fun h => by cases h) (fun _ => ?_)
      simp [e2, e4, e8, DB, wmi]
      refine ⟨DA, ?_⟩
      refine call_h (swapR_c C (A := A') (U := U') (M := []) (V := V') (B := B') (by simpa using H) heq (a := A'.length) (b := m) (c := U'.length) rfl (by simp; omega) rfl) (by simp [e2, e4, e8, wmi, dat]) ?_
      rintro r w3 ⟨rfl, H3, M3⟩
      simp
      simp only [List.nil_append] at H3
      rw [hE] at H3
      exact ⟨H3, (M1.mono fun _ _ h => h.elim).tr (MM.tr M3)⟩
    · refine ite_r (t := true) (by simp; omega) (fun _ => ?_) (fun h => by cases h)
      simp [wp_blk, e8, e9]
      by_cases hgt : V'.length < U'.length
      · refine ite_r (t := true) (by simp; omega) (fun _ => ?_) (fun h => by cases h)
        obtain ⟨P, R, rfl, hP⟩ : ∃ P R, U' = P ++ R ∧ P.length = V'.length := ⟨U'.take V'.length, U'.drop V'.length, (List.take_append_drop _ _).symm, by simp; omega⟩
        rw [List.length_append] at e8 hgt hl' hm' wmi hU' heq
        have wij : IntKind.i64.wrap (((P.length + R.length : Nat) : Int) - V'.length) = (R.length : Int) := by rw [wI (by omega) (by omega)]; omega
        simp [e2, e4, e8, e9, DB, wmi, -Int.natCast_add]
        refine ⟨DA, ?_⟩
        refine call_h (swapR_c C (A := A') (U := P) (M := R) (V := V') (B := B') (by simpa using H) hP (a := A'.length) (b := m) (c := V'.length) rfl (by omega) hP.symm) (by simp [e2, e4, e8, e9, wmi, dat, -Int.natCast_add]) ?_
        rintro r w3 ⟨rfl, H3, M3⟩
        simp [e8, e9, wij, -Int.natCast_add]
        refine ⟨V'.length + R.length, by omega, by simp [e2], by simp [e4], A' ++ V', R, P, by omega, by simp, by simp [hP, e9], by omega, by omega, by simp; omega, B', by simp; omega, by simpa using H3, by rw [← hE]; simp, MM.tr M3⟩
      · refine ite_r (t := false) (by simp; omega) (fun h => by cases h) (fun _ => ?_)
        obtain ⟨P, R, rfl, hP⟩ : ∃ P R, V' = P ++ R ∧ R.length = U'.length := ⟨V'.take (V'.length - U'.length), V'.drop (V'.length - U'.length), (List.take_append_drop _ _).symm, by simp; omega⟩
        rw [List.length_append] at e9 hgt hl' hV' heq
        have wmj : IntKind.i64.wrap ((m : Int) + (P.length + R.length : Nat)) = ((m + (P.length + R.length) : Nat) : Int) := by rw [wI (by omega) (by omega)]; omega
        have wmj2 : IntKind.i64.wrap (((m + (P.length + R.length) : Nat) : Int) - U'.length) = ((m + P.length : Nat) : Int) := by rw [wI (by omega) (by omega)]; omega
        have wji : IntKind.i64.wrap (((P.length + R.length : Nat) : Int) - U'.length) = (P.length : Int) := by rw [wI (by omega) (by omega)]; omega
        simp [e2, e4, e8, e9, DB, wmi, wmj, wmj2, -Int.natCast_add]
        refine ⟨DA, ?_⟩
        refine call_h (swapR_c C (A := A') (U := U') (M := P) (V := R) (B := B') (by simpa using H) hP.symm (a := A'.length) (b := m + P.length) (c := U'.length) rfl (by omega) rfl) (by simp [e2, e4, e8, e9, wmi, wmj, wmj2, dat, -Int.natCast_add]) ?_
        rintro r w3 ⟨rfl, H3, M3⟩
        simp [e8, e9, wji, -Int.natCast_add]
        refine ⟨R.length + P.length, by omega, by simp [e2], by simp [e4], A', R, P, by omega, by simp [e8, hP], by simp, by omega, by omega, by omega, U' ++ B', by simp; omega, by simpa using H3, by rw [← hE]; simp, MM.tr M3⟩
end

end Go.Proofs.Ytgjnfajdejkkjaa.VG
